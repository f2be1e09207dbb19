/-
  The walks of Quote and of the reference's Quote.
  Plain law of LexCovers: gaps alone between the tokens; each token is what its own bytes say; the faults' codes and places.
  Plain law of LexBack: what Quote writes stands for its text.
  The plain law of numbers: what Atoi and Itoa say is canonical is what the document says.
-/
import Derived.Test.YtghhnnbbjlipcaaGreatDoorLexT
import Derived.Deep.RegionLaw
import Derived.Laws.BitsLemmas
import Derived.Test.YtghhnnbbjlipcaaGreatDoorLexPlain
import Derived.Lib.AtoiAllCases
import Derived.Test.YtghhnnbbjlipcaaGreatDoorLexL
import Derived.Lib.ItoaMem
set_option linter.unusedVariables false
set_option linter.unusedSimpArgs false
namespace Go.Proofs.YtghhnnbbjlipcaaGreatDoor.X
open Go.RowKit
def hexT (x : UInt8) : UInt8 := if x < 10 then 48 + x else 87 + x
/-- What a byte is written as in a text in quotes. -/
def qB (c : UInt8) : Bs :=
  if c = 34 ∨ c = 92 then [92, c] else if c = 10 then [92, 110] else if c = 9 then [92, 116] else if c = 13 then [92, 114]
  else if c < 32 ∨ 126 < c then [92, 120, hexT (c / 16), hexT (c % 16)] else [c]
def qAll : Bs → Bs
  | [] => []
  | c :: l => qB c ++ qAll l
def quoteL (l : Bs) : Bs := 34 :: (qAll l ++ [34])
def hexS : ByteArray := ⟨#[48, 49, 50, 51, 52, 53, 54, 55, 56, 57, 97, 98, 99, 100, 101, 102]⟩
theorem hexS_at : ∀ (n : Fin 16) (h : n.val < hexS.size), hexS[n.val]'h = hexT n.val.toUInt8 := by decide +kernel
theorem hexS_get (y : UInt8) (hy : y.toNat < 16) (n : Int) (hn : n = (y.toNat : Int)) (h : n.toNat < hexS.size) : hexS[n.toNat]'h = hexT y := by
  subst hn
  have := hexS_at ⟨y.toNat, hy⟩ h
  simpa using this
theorem u8_quo (x : UInt8) : ((x / 16).toNat : Int) = (x.toNat : Int) / 16 := by
  have e : (x / 16).toNat = x.toNat / 16 := by simp
  rw [e]; omega
theorem u8_rem (x : UInt8) : ((x % 16).toNat : Int) = (x.toNat : Int) % 16 := by
  have e : (x % 16).toNat = x.toNat % 16 := by simp
  rw [e]; omega
/-- The same as a step of a region that draws its order. -/
theorem app_bytes_step {ops : Array Oper} {o : Oper} {a : Act} {Q : Exit → Act → World → Prop} {K : Act → World → Prop} {w0 W : World} (base : Nat) (hw : Region.wanted o (yielded ops a.tmps) = true) (s x : Operand)
    (ho : o.op = .call { callee := .builtin .append, args := #[s, x], argTypes := #[89, 89] })
    (v : Value) (xs ys : Bs) (cs : Array Value) (m : Nat) (hcs : cs.toList = Lib.byteCells ys) (hm : ys.length = m) (hs : a.eval s = v) (hx : a.eval x = .slice (some ⟨W.heap.size, 0, none⟩) m m)
    (HO : W.ownsRow base 5 1 v xs.length (Lib.byteCells xs)) (HB : Below base w0 W) (hbase : base ≤ W.heap.size) (hl : xs.length + m ≤ 140737488355328)
    (h : ∀ v1 w1, w1.ownsRow base 5 1 v1 (xs ++ ys).length (Lib.byteCells (xs ++ ys)) → Below base w0 w1 → K (a.put o.dst v1) w1) :
    if Region.wanted o (yielded ops a.tmps) = true then Oper.wp Tryz.prog o a (W.alloc (.cells cs 5)) K Q else K (a.put o.dst undef) (W.alloc (.cells cs 5)) := by
  obtain ⟨i0, hi, hz0, hz1, hz2⟩ := info_parts infoU8
  subst hm
  rw [if_pos hw]
  obtain ⟨v1, w1, hr, hown, hg, _, hat⟩ := run_append_own_at (P := Tryz.prog) (W.alloc (.cells cs 5)) base 89 o.type 5 i0 (.int .u8 0) 1 1 Tryz.underlying89 hi hz0 hz1 hz2 rfl (by omega) v xs.length _ (HO.alloc _) ⟨W.heap.size, 0, none⟩ ys.length ys.length (Lib.byteCells ys) (by simp [Lib.byteCells])
    (fun j u hu => World.news_of_block (cs := cs) (t := 5) (fr := (0, 0)) (heap_alloc_new W _) j u (by rw [hcs]; exact hu)) (by simp [Lib.byteCells, Value.oneCell']) (by simp only [maxLen]; omega) (by omega) (by simp; omega)
  unfold Oper.wp execOp
  simp only [ho, resolve, invoke, builtin, Sem.run_bind, Sem.run_pure, Result.andThen_ok, List.map_toArray, List.map_cons, List.map_nil, hs, hx, hr]
  refine h v1 w1 ?_ ((HB.alloc hbase _).grown hg (by simp; omega) (own_base HO))
  simpa [Lib.byteCells] using hown
theorem own_one (w : World) : (w.alloc (.cells #[.int .u8 34] 5)).ownsRow w.heap.size 5 1 (.slice (some ⟨w.heap.size, 0, none⟩) 1 1) [34].length (Lib.byteCells [34]) := by
  have h := World.ownsRow_lit (base := w.heap.size) (e := 5) (size := 1) w #[.int .u8 34] 1 (Nat.le_refl _) (by simp [maxLen]) (by simp)
  simpa [Lib.byteCells] using h

set_option maxHeartbeats 8000000 in
set_option maxRecDepth 100000 in
theorem quote_any (s : ByteArray) (w : World) (hs : s.size ≤ 1000000000000) :
    Calls Tryz.prog 83 #[.string s] w fun e w' => e = .returned (.string ⟨(quoteL s.data.toList).toArray⟩) ∧ Below w.heap.size w w' := by
  obtain ⟨R, hR⟩ : ∃ R, R = 34 :: qAll s.data.toList := ⟨_, rfl⟩
  have hQ : quoteL s.data.toList = R ++ [34] := by rw [hR]; rfl
  rw [hQ]
  have HR := Lib.hid hR
  clear hR hQ
  go_enter Tryz.func83, Tryz.ntmps83
  go_wp2
  go_loopw [3, 4] (fun v j wr => ∃ (k : Nat) (acc : Bs), k ≤ s.size ∧ acc.length ≤ 4 * k + 1 ∧ j = .int .i64 k ∧ Hid (R = acc ++ qAll (s.data.toList.drop k)) ∧ Hid (wr.ownsRow w.heap.size 5 1 v acc.length (Lib.byteCells acc)) ∧ Hid (Below w.heap.size w wr)) (fun _ j _ => s.size - (intOf j).toNat)
  case atStart => exact ⟨0, [34], Nat.zero_le _, by simp, rfl, Lib.hid (by rw [HR.out]; simp), Lib.hid (own_one w), Lib.hid ((Below.refl _ _).alloc (Nat.le_refl _) _)⟩
  case round =>
    obtain ⟨k, acc, hk, ha, rfl, HK, HO, HB⟩ := hrel
    clear HR
    have hbs := HB.out.size
    by_cases hlt : k < s.size
    · have HD := Lib.hid (drop_at s k hlt)
      have hge : (0 : Int) ≤ (s[k].toNat : Int) := by omega
      have hbl : (s[k].toNat : Int) ≤ 255 := by have := s[k].toNat_lt; omega
      have HQ : Hid (R = acc ++ qB s[k] ++ qAll (s.data.toList.drop (k + 1))) := Lib.hid (by rw [HK.out, HD.out]; simp [qAll])
      by_cases c34 : s[k] = 34
      · have e34 : ((s[k].toNat : Int) == 34) = true := byte_eq s[k] 34 c34
        have hq : qB s[k] = [92, s[k]] := by simp [qB, c34]
        rw [hq] at HQ
        clear hq c34
        go_wp2_with (at_builtin; go_loud (refine app_bytes w.heap.size rfl (.tmp 27) (.tmp 29) rfl _ acc [92, s[k]] _ 2 rfl rfl rfl rfl HO.out HB.out (by omega) (by omega) ?_; intro v1 w4 hown hb4 _))
        go_roundw
        case rel => exact ⟨k + 1, acc ++ [92, s[k]], by omega, by simp; omega, by go_num, HQ, Lib.hid hown, Lib.hid hb4⟩
        case measure => simp [intOf]; omega
      have n34 : ((s[k].toNat : Int) == 34) = false := byte_ne s[k] 34 (by decide) c34
      by_cases c92 : s[k] = 92
      · have e92 : ((s[k].toNat : Int) == 92) = true := byte_eq s[k] 92 c92
        have hq : qB s[k] = [92, s[k]] := by simp [qB, c92]
        rw [hq] at HQ
        clear hq c34 c92
        go_wp2_with (at_builtin; go_loud (refine app_bytes w.heap.size rfl (.tmp 27) (.tmp 29) rfl _ acc [92, s[k]] _ 2 rfl rfl rfl rfl HO.out HB.out (by omega) (by omega) ?_; intro v1 w4 hown hb4 _))
        go_roundw
        case rel => exact ⟨k + 1, acc ++ [92, s[k]], by omega, by simp; omega, by go_num, HQ, Lib.hid hown, Lib.hid hb4⟩
        case measure => simp [intOf]; omega
      have n92 : ((s[k].toNat : Int) == 92) = false := byte_ne s[k] 92 (by decide) c92
      by_cases c10 : s[k] = 10
      · have e10 : ((s[k].toNat : Int) == 10) = true := byte_eq s[k] 10 c10
        have hq : qB s[k] = [92, 110] := by simp [qB, c10]
        rw [hq] at HQ
        clear hq c34 c92 c10
        go_wp2_with (at_builtin; go_loud (refine app_bytes w.heap.size rfl (.tmp 34) (.tmp 35) rfl _ acc [92, 110] _ 2 rfl rfl rfl rfl HO.out HB.out (by omega) (by omega) ?_; intro v1 w4 hown hb4 _))
        go_roundw
        case rel => exact ⟨k + 1, acc ++ [92, 110], by omega, by simp; omega, by go_num, HQ, Lib.hid hown, Lib.hid hb4⟩
        case measure => simp [intOf]; omega
      have n10 : ((s[k].toNat : Int) == 10) = false := byte_ne s[k] 10 (by decide) c10
      by_cases c9 : s[k] = 9
      · have e9 : ((s[k].toNat : Int) == 9) = true := byte_eq s[k] 9 c9
        have hq : qB s[k] = [92, 116] := by simp [qB, c9]
        rw [hq] at HQ
        clear hq c34 c92 c10 c9
        go_wp2_with (at_builtin; go_loud (refine app_bytes w.heap.size rfl (.tmp 40) (.tmp 41) rfl _ acc [92, 116] _ 2 rfl rfl rfl rfl HO.out HB.out (by omega) (by omega) ?_; intro v1 w4 hown hb4 _))
        go_roundw
        case rel => exact ⟨k + 1, acc ++ [92, 116], by omega, by simp; omega, by go_num, HQ, Lib.hid hown, Lib.hid hb4⟩
        case measure => simp [intOf]; omega
      have n9 : ((s[k].toNat : Int) == 9) = false := byte_ne s[k] 9 (by decide) c9
      by_cases c13 : s[k] = 13
      · have e13 : ((s[k].toNat : Int) == 13) = true := byte_eq s[k] 13 c13
        have hq : qB s[k] = [92, 114] := by simp [qB, c13]
        rw [hq] at HQ
        clear hq c34 c92 c10 c9 c13
        go_wp2_with (at_builtin; go_loud (refine app_bytes w.heap.size rfl (.tmp 46) (.tmp 47) rfl _ acc [92, 114] _ 2 rfl rfl rfl rfl HO.out HB.out (by omega) (by omega) ?_; intro v1 w4 hown hb4 _))
        go_roundw
        case rel => exact ⟨k + 1, acc ++ [92, 114], by omega, by simp; omega, by go_num, HQ, Lib.hid hown, Lib.hid hb4⟩
        case measure => simp [intOf]; omega
      have n13 : ((s[k].toNat : Int) == 13) = false := byte_ne s[k] 13 (by decide) c13
      by_cases c32 : s[k] < 32
      · have h32 : (s[k].toNat : Int) < 32 := by rw [UInt8.lt_iff_toNat_lt] at c32; simp at c32; omega
        have hq : qB s[k] = [92, 120, hexT (s[k] / 16), hexT (s[k] % 16)] := by simp [qB, c34, c92, c10, c9, c13, c32]
        rw [hq] at HQ
        clear hq c34 c92 c10 c9 c13 c32
        have b1 : (0 : Int) ≤ (s[k].toNat : Int) / 16 := by omega
        have b2 : (s[k].toNat : Int) / 16 < 16 := by omega
        have b3 : (0 : Int) ≤ (s[k].toNat : Int) % 16 := by omega
        have b4 : (s[k].toNat : Int) % 16 < 16 := by omega
        have q2 : bits .and .u8 (s[k].toNat : Int) 15 = (s[k].toNat : Int) % 16 := u8_and15 _ (by omega) (by omega)
        have H1 := Lib.hid (hexS_get (s[k] / 16) (by simp; omega) ((s[k].toNat : Int) / 16) (u8_quo _).symm)
        have H2 := Lib.hid (hexS_get (s[k] % 16) (by simp; omega) ((s[k].toNat : Int) % 16) (u8_rem _).symm)
        have hlen : acc.length + 4 ≤ 140737488355328 := by omega
        go_wp2_with fail
        go_region_law (refine app_bytes_step w.heap.size rfl (.tmp 56) (.tmp 63) rfl _ acc [92, 120, hexT (s[k] / 16), hexT (s[k] % 16)] _ 4 (by rw [← H1.out, ← H2.out]; rfl) rfl rfl rfl (HO.out.drew) (HB.out.drew) hbs hlen ?_; intro v1 w4 hown hb4)
        all_goals
          go_wp2_with fail
          go_roundw
          case rel => exact ⟨k + 1, acc ++ [92, 120, hexT (s[k] / 16), hexT (s[k] % 16)], by omega, by simp; omega, by go_num, HQ, Lib.hid hown, Lib.hid hb4⟩
          case measure => simp [intOf]; omega
      have h32 : ¬ ((s[k].toNat : Int) < 32) := by rw [UInt8.lt_iff_toNat_lt] at c32; simp at c32; omega
      by_cases c126 : 126 < s[k]
      · have h126 : (126 : Int) < (s[k].toNat : Int) := by rw [UInt8.lt_iff_toNat_lt] at c126; simp at c126; omega
        have hq : qB s[k] = [92, 120, hexT (s[k] / 16), hexT (s[k] % 16)] := by simp [qB, c34, c92, c10, c9, c13, c32, c126]
        rw [hq] at HQ
        clear hq c34 c92 c10 c9 c13 c32 c126
        have b1 : (0 : Int) ≤ (s[k].toNat : Int) / 16 := by omega
        have b2 : (s[k].toNat : Int) / 16 < 16 := by omega
        have b3 : (0 : Int) ≤ (s[k].toNat : Int) % 16 := by omega
        have b4 : (s[k].toNat : Int) % 16 < 16 := by omega
        have q2 : bits .and .u8 (s[k].toNat : Int) 15 = (s[k].toNat : Int) % 16 := u8_and15 _ (by omega) (by omega)
        have H1 := Lib.hid (hexS_get (s[k] / 16) (by simp; omega) ((s[k].toNat : Int) / 16) (u8_quo _).symm)
        have H2 := Lib.hid (hexS_get (s[k] % 16) (by simp; omega) ((s[k].toNat : Int) % 16) (u8_rem _).symm)
        have hlen : acc.length + 4 ≤ 140737488355328 := by omega
        go_wp2_with fail
        go_region_law (refine app_bytes_step w.heap.size rfl (.tmp 56) (.tmp 63) rfl _ acc [92, 120, hexT (s[k] / 16), hexT (s[k] % 16)] _ 4 (by rw [← H1.out, ← H2.out]; rfl) rfl rfl rfl (HO.out.drew) (HB.out.drew) hbs hlen ?_; intro v1 w4 hown hb4)
        all_goals
          go_wp2_with fail
          go_roundw
          case rel => exact ⟨k + 1, acc ++ [92, 120, hexT (s[k] / 16), hexT (s[k] % 16)], by omega, by simp; omega, by go_num, HQ, Lib.hid hown, Lib.hid hb4⟩
          case measure => simp [intOf]; omega
      have h126 : ¬ ((126 : Int) < (s[k].toNat : Int)) := by rw [UInt8.lt_iff_toNat_lt] at c126; simp at c126; omega
      have hq : qB s[k] = [s[k]] := by simp [qB, c34, c92, c10, c9, c13, c32, c126]
      rw [hq] at HQ
      clear hq c34 c92 c10 c9 c13 c32 c126
      go_wp2_with (at_builtin; go_loud (refine app_bytes w.heap.size rfl (.tmp 16) (.tmp 18) rfl _ acc [s[k]] _ 1 rfl rfl rfl rfl HO.out HB.out (by omega) (by omega) ?_; intro v1 w4 hown hb4 _))
      go_roundw
      case rel => exact ⟨k + 1, acc ++ [s[k]], by omega, by simp; omega, by go_num, HQ, Lib.hid hown, Lib.hid hb4⟩
      case measure => simp [intOf]; omega
    · have hI : ¬ ((k : Int) < (s.size : Int)) := by omega
      have HE : Hid (R = acc) := Lib.hid (by rw [HK.out, drop_end s k (by omega)]; simp [qAll])
      go_wp2_with (at_builtin; go_loud (refine app_bytes w.heap.size rfl (.tmp 65) (.tmp 66) rfl _ acc [34] _ 1 rfl rfl rfl rfl HO.out HB.out (by omega) (by omega) ?_; intro v1 w4 hown hb4 _; have hcv := conv_bytes hown))
      go_ret
      exact ⟨by rw [HE.out]; rfl, hb4⟩

end Go.Proofs.YtghhnnbbjlipcaaGreatDoor.X
set_option linter.unusedVariables false
set_option linter.unusedSimpArgs false
namespace Go.Proofs.YtghhnnbbjlipcaaGreatDoor.X
theorem tokAt_codes {l : Bs} {i : Nat} {f : Int × Nat} (hi : i < l.length) (h : tokAt l i = .error f) : f.2 ≤ l.length ∧ 111 ≤ f.1 ∧ f.1 ≤ 115 := by
  have hne : l.drop i ≠ [] := by
    intro e
    have := congrArg List.length e
    rw [List.length_drop] at this
    simp at this; omega
  rw [tokAt_drop l i (by omega)] at h
  cases h0 : tokAt (l.drop i) 0 with
  | ok t => rw [h0] at h; cases h
  | error g =>
    rw [h0] at h
    cases h
    simp only
    have hc : 111 ≤ g.1 ∧ g.1 ≤ 115 ∧ (g.1 = 112 → g.2 = 0) := by
      cases hd : l.drop i with
      | nil => exact absurd hd hne
      | cons c r =>
        rw [hd, tokAt0] at h0
        split at h0
        · unfold textAt at h0
          split at h0
          · cases h0; simp
          · cases h0; simp
          · cases h0; simp
          · split at h0
            · cases h0; simp
            · cases h0
        split at h0
        · split at h0
          · cases h0
          · cases h0; simp
        split at h0
        · cases h0
        split at h0
        · cases h0
        · cases h0; simp
    refine ⟨?_, hc.1, hc.2.1⟩
    by_cases h112 : g.1 = 112
    · have := hc.2.2 h112; omega
    · have := tok_err_at hne h0 h112
      rw [List.length_drop] at this
      omega
theorem scanN_codes (l : Bs) : ∀ (n i : Nat) (f : Int × Nat), i ≤ l.length → (scanN l n i).2 = some f → f.2 ≤ l.length ∧ 111 ≤ f.1 ∧ f.1 ≤ 115
  | 0, i, f, hi, h => by simp [scanN] at h
  | n + 1, i, f, hi, h => by
    have hsk := skipN_le hi
    cases hr : tokAt l (skipN l i) with
    | error g =>
      rw [scanN_err hr] at h
      cases h
      have hlt : skipN l i < l.length := by
        rcases Nat.lt_or_ge (skipN l i) l.length with h1 | h1
        · exact h1
        · rw [show skipN l i = l.length by omega, tokAt_end] at hr; cases hr
      exact tokAt_codes hlt hr
    | ok t =>
      by_cases hk : t.kind = 0
      · rw [scanN_end hr hk] at h; cases h
      · rw [scanN_ok hr hk] at h
        exact scanN_codes l n t.end_ f (tok_cases hsk hr hk).2.2 h
/-- The fault of a source. -/
theorem scan_fault {l : Bs} {c : Int} {a : Nat} (h : scanL l = ([], some (c, a))) : a ≤ l.length ∧ 110 ≤ c ∧ c ≤ 115 ∧ (4096 < l.length ↔ c = 110) := by
  have hp : (prefixL l).2 = some (c, a) := by
    unfold scanL at h
    split at h
    · exact congrArg Prod.snd h
    · rename_i hs; rw [h] at hs; exact absurd rfl hs
  unfold prefixL at hp
  split at hp
  · cases hp; exact ⟨by omega, by omega, by omega, by simp; omega⟩
  · have := scanN_codes l _ 0 (c, a) (Nat.zero_le _) hp
    simp only at this
    exact ⟨this.1, by omega, this.2.2, by omega⟩

end Go.Proofs.YtghhnnbbjlipcaaGreatDoor.X
set_option linter.unusedVariables false
set_option linter.unusedSimpArgs false
namespace Go.Proofs.YtghhnnbbjlipcaaGreatDoor.X
theorem hex_all : ∀ n : Fin 256, hexB (hexT (n.val.toUInt8 / 16)) = true ∧ hexB (hexT (n.val.toUInt8 % 16)) = true ∧ 16 * hexV (hexT (n.val.toUInt8 / 16)) + hexV (hexT (n.val.toUInt8 % 16)) = n.val.toUInt8 := by decide +kernel
theorem hex_back (c : UInt8) : hexB (hexT (c / 16)) = true ∧ hexB (hexT (c % 16)) = true ∧ 16 * hexV (hexT (c / 16)) + hexV (hexT (c % 16)) = c := by
  have := hex_all ⟨c.toNat, c.toNat_lt⟩
  simpa using this
theorem qB_read (c : UInt8) (x : Bs) (off : Nat) (acc : Bs) : strL (qB c ++ x) off acc = strL x (off + (qB c).length) (acc ++ [c]) := by
  unfold qB
  by_cases c1 : c = 34 ∨ c = 92
  · simp only [if_pos c1, List.cons_append, List.nil_append]
    rw [strL_cons, if_neg (by decide), if_neg (by decide), if_pos rfl]
    simp only [escOf, if_pos c1]
    rfl
  simp only [if_neg c1]
  by_cases c2 : c = 10
  · subst c2
    simp only [if_true, List.cons_append, List.nil_append]
    rw [strL_cons, if_neg (by decide), if_neg (by decide), if_pos rfl]
    rfl
  simp only [if_neg c2]
  by_cases c3 : c = 9
  · subst c3
    simp only [if_true, List.cons_append, List.nil_append]
    rw [strL_cons, if_neg (by decide), if_neg (by decide), if_pos rfl]
    rfl
  simp only [if_neg c3]
  by_cases c4 : c = 13
  · subst c4
    simp only [if_true, List.cons_append, List.nil_append]
    rw [strL_cons, if_neg (by decide), if_neg (by decide), if_pos rfl]
    rfl
  simp only [if_neg c4]
  by_cases c5 : c < 32 ∨ 126 < c
  · simp only [if_pos c5, List.cons_append, List.nil_append]
    obtain ⟨h1, h2, h3⟩ := hex_back c
    rw [strL_cons, if_neg (by decide), if_neg (by decide), if_pos rfl]
    simp only [escOf, h1, h2, Bool.and_self, if_true, h3]
    rw [if_neg (by decide), if_neg (by decide), if_neg (by decide), if_neg (by decide)]
    simp only [List.drop_succ_cons, List.drop_zero]
    rfl
  · simp only [if_neg c5, List.cons_append, List.nil_append]
    rw [strL_cons, if_neg (fun e => c1 (.inl e)), if_neg (fun e => c5 (.inl e)), if_neg (fun e => c1 (.inr e))]
    rfl
theorem qAll_read (x : Bs) : ∀ (l : Bs) (off : Nat) (acc : Bs), strL (qAll l ++ 34 :: x) off acc = .done (acc ++ l) (off + (qAll l).length + 1)
  | [], off, acc => by simp [qAll, strL_cons]
  | c :: l, off, acc => by
    simp only [qAll, List.append_assoc]
    rw [qB_read, qAll_read x l]
    simp only [List.length_append, List.append_assoc, List.cons_append, List.nil_append]
    congr 1
    omega
theorem quote_tok (l x : Bs) : tokAt (quoteL l ++ x) 0 = if 127 < l.length then .error (115, 0) else .ok ⟨1, l, 0, 0, (quoteL l).length⟩ := by
  unfold quoteL
  rw [List.cons_append, tokAt0, if_pos rfl]
  unfold textAt
  have e : (34 :: (qAll l ++ [34] ++ x)).drop (0 + 1) = qAll l ++ 34 :: x := by simp
  rw [e, qAll_read]
  simp only [List.nil_append]
  split
  · rfl
  · simp; omega

end Go.Proofs.YtghhnnbbjlipcaaGreatDoor.X
set_option linter.unusedVariables false
set_option linter.unusedSimpArgs false
namespace Go.Proofs.YtghhnnbbjlipcaaGreatDoor.X
/-- One digit more. -/
def stepN (acc : Nat) (c : UInt8) : Nat := acc * 10 + (c.toNat - 48)
theorem stepN_eq (acc : Nat) (c : UInt8) : stepN acc c = acc * 10 + (c.toNat - 48) := rfl
attribute [irreducible] stepN
/-- The value of a row of digits. -/
def valN (acc : Nat) : Bs → Nat
  | [] => acc
  | c :: l => valN (stepN acc c) l
theorem valN_nil (acc : Nat) : valN acc [] = acc := rfl
theorem valN_cons (acc : Nat) (c : UInt8) (l : Bs) : valN acc (c :: l) = valN (stepN acc c) l := rfl
def digsB (l : Bs) : Bool := l.all digB
/-- The document's number: d is the run without its minus. -/
def refBody (run d : Bs) : Option Int :=
  if d.length < 1 ∨ 18 < d.length then none else if digsB d = false then none
  else if d.head? = some 48 ∧ run ≠ [48] then none
  else some (if d.length < run.length then -(valN 0 d : Int) else (valN 0 d : Int))
def refNum (run : Bs) : Option Int := refBody run (if run.head? = some 45 then run.tail else run)
theorem dig_nat {c : UInt8} (h : digB c = true) : 48 ≤ c.toNat ∧ c.toNat ≤ 57 := by
  simp only [digB, Bool.and_eq_true, decide_eq_true_eq, UInt8.le_iff_toNat_le] at h
  simpa using h
theorem valN_append (c : UInt8) (l : Bs) : ∀ acc, valN acc (l ++ [c]) = stepN (valN acc l) c := by
  induction l with
  | nil => intro acc; rw [List.nil_append, valN_cons, valN_nil, valN_nil]
  | cons a l ih => intro acc; rw [List.cons_append, valN_cons, valN_cons, ih]
theorem valN_ge (l : Bs) : ∀ acc, acc ≤ valN acc l := by
  induction l with
  | nil => intro acc; rw [valN_nil]; exact Nat.le_refl _
  | cons c l ih =>
    intro acc
    rw [valN_cons]
    have h1 := ih (stepN acc c)
    have h2 := stepN_eq acc c
    omega
/-- The reader of digits, where nothing overflows. -/
theorem parse_ok (l : Bs) : ∀ acc, digsB l = true → (acc + 1) * 10 ^ l.length ≤ 1000000000000000000 → Lib.parseUint10 acc l = .ok (valN acc l) := by
  induction l with
  | nil => intro acc _ _; rfl
  | cons c l ih =>
    intro acc h hb
    simp only [digsB, List.all_cons, Bool.and_eq_true] at h
    have h1 := dig_nat h.1
    have h3 : ((acc + 1) * 10) * 10 ^ l.length = (acc + 1) * 10 ^ (l.length + 1) := by rw [Nat.pow_succ, Nat.mul_assoc, Nat.mul_comm 10]
    have hp : 1 ≤ 10 ^ l.length := Nat.one_le_pow _ _ (by omega)
    rw [List.length_cons, ← h3] at hb
    have h4 : (acc + 1) * 10 ≤ 1000000000000000000 := by
      have : (acc + 1) * 10 * 1 ≤ ((acc + 1) * 10) * 10 ^ l.length := Nat.mul_le_mul_left _ hp
      omega
    have h2 : (acc * 10 + (c.toNat - 48) + 1) * 10 ^ l.length ≤ ((acc + 1) * 10) * 10 ^ l.length := Nat.mul_le_mul_right _ (by omega)
    rw [valN_cons, Lib.parseUint10, if_pos h1, if_neg (by omega), if_neg (by omega), stepN_eq]
    exact ih _ h.2 (Nat.le_trans h2 hb)
theorem pow18 {n : Nat} (h : n ≤ 18) : 10 ^ n ≤ 1000000000000000000 := by
  have : 10 ^ n ≤ 10 ^ 18 := Nat.pow_le_pow_right (by omega) h
  simpa using this
theorem byte_of {c : UInt8} (h : digB c = true) : UInt8.ofNat (48 + (c.toNat - 48)) = c := by
  have := dig_nat h
  rw [show 48 + (c.toNat - 48) = c.toNat by omega]
  simp
/-- A canonical row of digits is its value's numeral. -/
theorem dec_val (l : Bs) : digsB l = true → l ≠ [] → (l.head? = some 48 → l = [48]) → Lib.decDigits (valN 0 l) = l := by
  induction hn : l.length using Nat.strongRecOn generalizing l with
  | _ n ih =>
    intro hd hne hz
    obtain ⟨r, c, rfl⟩ : ∃ r c, l = r ++ [c] := ⟨l.dropLast, l.getLast hne, (List.dropLast_concat_getLast hne).symm⟩
    have hd2 : digsB r = true ∧ digB c = true := by simpa [digsB] using hd
    have h1 := dig_nat hd2.2
    rw [valN_append, stepN_eq]
    cases r with
    | nil =>
      rw [List.nil_append, valN_nil]
      rw [Lib.decDigits_one (by omega), Nat.zero_mul, Nat.zero_add, byte_of hd2.2]
    | cons a r =>
      have ha : a ≠ 48 := by
        rintro rfl
        have := hz (by simp)
        simp at this
      have hda : digB a = true := by have := hd2.1; simp [digsB] at this; exact this.1
      have h2 := dig_nat hda
      have h3 : a.toNat ≠ 48 := fun e => ha (UInt8.toNat_inj.1 (by simpa using e))
      have h4 : 1 ≤ valN 0 (a :: r) := by
        have h6 := valN_ge r (stepN 0 a)
        have h7 := stepN_eq 0 a
        rw [valN_cons]; omega
      have h5 := ih (a :: r).length (by rw [← hn]; simp) (a :: r) rfl hd2.1 (by simp) (fun e => by simp at e; exact absurd e ha)
      rw [Lib.decDigits, dif_neg (by omega)]
      rw [show (valN 0 (a :: r) * 10 + (c.toNat - 48)) / 10 = valN 0 (a :: r) by omega, show (valN 0 (a :: r) * 10 + (c.toNat - 48)) % 10 = c.toNat - 48 by omega, h5, byte_of hd2.2]
/-- A numeral is canonical, and its value is the number. -/
theorem val_dec (u : Nat) : digsB (Lib.decDigits u) = true ∧ Lib.decDigits u ≠ [] ∧ ((Lib.decDigits u).head? = some 48 → u = 0) ∧ valN 0 (Lib.decDigits u) = u := by
  induction u using Nat.strongRecOn with
  | _ u ih =>
    by_cases h : u < 10
    · rw [Lib.decDigits_one h]
      have hm : ((48 + u) % 256) = 48 + u := by omega
      refine ⟨?_, by simp, ?_, ?_⟩
      · simp only [digsB, List.all_cons, List.all_nil, Bool.and_true, digB, Bool.and_eq_true, decide_eq_true_eq, UInt8.le_iff_toNat_le]
        simp; omega
      · intro e
        simp only [List.head?_cons, Option.some.injEq] at e
        have := congrArg UInt8.toNat e
        simp at this; omega
      · rw [valN_cons, valN_nil, stepN_eq]; simp; omega
    · obtain ⟨h1, h2, h3, h4⟩ := ih (u / 10) (by omega)
      rw [Lib.decDigits, dif_neg h]
      have hm : ((48 + u % 10) % 256) = 48 + u % 10 := by omega
      refine ⟨?_, by simp, ?_, ?_⟩
      · have : digB (UInt8.ofNat (48 + u % 10)) = true := by
          simp only [digB, Bool.and_eq_true, decide_eq_true_eq, UInt8.le_iff_toNat_le]
          simp; omega
        simp only [digsB, List.all_append, List.all_cons, List.all_nil, Bool.and_true, Bool.and_eq_true]
        exact ⟨h1, this⟩
      · intro e
        cases hl : Lib.decDigits (u / 10) with
        | nil => exact absurd hl h2
        | cons a l =>
          rw [hl] at e h3
          have := h3 (by simpa using e)
          omega
      · rw [valN_append, h4, stepN_eq]; simp; omega

theorem parseMag_ok (d : Bs) (h1 : d ≠ []) (h2 : digsB d = true) (h3 : d.length ≤ 18) : Lib.parseMag d = .ok (valN 0 d) := by
  unfold Lib.parseMag
  rw [if_neg h1]
  exact parse_ok d 0 h2 (by simpa using pow18 h3)
theorem valN_small (d : Bs) : ∀ acc, digsB d = true → valN acc d + 1 ≤ (acc + 1) * 10 ^ d.length := by
  induction d with
  | nil => intro acc _; rw [valN_nil]; simp
  | cons c l ih =>
    intro acc h
    simp only [digsB, List.all_cons, Bool.and_eq_true] at h
    have h1 := dig_nat h.1
    have h3 : ((acc + 1) * 10) * 10 ^ l.length = (acc + 1) * 10 ^ (l.length + 1) := by rw [Nat.pow_succ, Nat.mul_assoc, Nat.mul_comm 10]
    have h2 : (stepN acc c + 1) * 10 ^ l.length ≤ ((acc + 1) * 10) * 10 ^ l.length := Nat.mul_le_mul_right _ (by rw [stepN_eq]; omega)
    rw [valN_cons, List.length_cons, ← h3]
    exact Nat.le_trans (ih _ h.2) h2
theorem val18 (d : Bs) (h : digsB d = true) (hl : d.length ≤ 18) : valN 0 d < 1000000000000000000 := by
  have h1 := valN_small d 0 h
  have h2 := pow18 hl
  rw [show 0 + 1 = 1 from rfl, Nat.one_mul] at h1
  omega
/-- A canonical row of digits ahead of no sign. -/
theorem num_plain (d : Bs) (h1 : d ≠ []) (h2 : digsB d = true) (h3 : d.length ≤ 18) (h4 : d.head? = some 48 → d = [48]) : numOf d = some (valN 0 d : Int) := by
  cases d with
  | nil => exact absurd rfl h1
  | cons c r =>
    have hc : digB c = true := by simp [digsB] at h2; exact h2.1
    have hn := dig_nat hc
    have h45 : c ≠ 45 := by rintro rfl; exact absurd hc (by decide)
    have hv := val18 (c :: r) h2 h3
    have hp := parseMag_ok (c :: r) h1 h2 h3
    have hd := dec_val (c :: r) h2 h1 h4
    have ha : Lib.atoiAll (c :: r) = .ok (valN 0 (c :: r) : Int) := by
      rw [Lib.atoiAll_plain c r (by omega) (by omega), hp]
      simp only [Lib.signless]
      rw [if_neg (by omega)]
    have hi : Lib.itoa (valN 0 (c :: r) : Int) = c :: r := by rw [Lib.itoa_nonneg, hd]
    have hh : ¬ (c :: r).head? = some 45 := by simpa using h45
    unfold numOf
    rw [ha]
    simp only
    rw [if_neg hh, if_pos ⟨hi, h3⟩]
theorem num_minus (d : Bs) (h1 : d ≠ []) (h2 : digsB d = true) (h3 : d.length ≤ 18) (h4 : d.head? ≠ some 48) : numOf (45 :: d) = some (-(valN 0 d : Int)) := by
  have hv := val18 d h2 h3
  have hp := parseMag_ok d h1 h2 h3
  have hd := dec_val d h2 h1 (fun e => absurd e h4)
  have h5 : 1 ≤ valN 0 d := by
    apply Classical.byContradiction
    intro h
    have e : valN 0 d = 0 := by omega
    rw [e, Lib.decDigits_one (by omega)] at hd
    rw [← hd] at h4
    exact h4 rfl
  have ha : Lib.atoiAll (45 :: d) = .ok (-(valN 0 d : Int)) := by
    rw [Lib.atoiAll_minus, hp]
    simp only [Lib.signed]
    rw [if_neg (by omega)]
  have hi : Lib.itoa (-(valN 0 d : Int)) = 45 :: d := by rw [Lib.itoa_neg _ h5, hd]
  have hh : (45 :: d : Bs).head? = some 45 := rfl
  unfold numOf
  rw [ha]
  simp only
  rw [if_pos hh, if_pos ⟨hi, h3⟩]
/-- What the code takes is what the document takes. -/
theorem num_eq (run : Bs) : numOf run = refNum run := by
  have back : ∀ n, numOf run = some n → refNum run = some n := by
    intro n h
    unfold numOf at h
    rcases numEnd_cases (Lib.atoiAll run) with ⟨m, ha⟩ | ha | ha
    rotate_left
    · rw [ha] at h; cases h
    · rw [ha] at h; cases h
    · rw [ha] at h
      simp only at h
      by_cases hc : Lib.itoa m = run ∧ (if run.head? = some 45 then run.tail else run).length ≤ 18
      · rw [if_pos hc] at h
        obtain ⟨hi, hl⟩ := hc
        injection h with h
        subst h
        by_cases hneg : m < 0
        · obtain ⟨h1, h2, h3, h4⟩ := val_dec m.natAbs
          have hr : run = 45 :: Lib.decDigits m.natAbs := by rw [← hi]; unfold Lib.itoa; rw [if_pos hneg]
          have hh : run.head? = some 45 := by rw [hr]; rfl
          rw [if_pos hh] at hl
          have ht : run.tail = Lib.decDigits m.natAbs := by rw [hr]; rfl
          unfold refNum
          rw [if_pos hh, ht]
          rw [ht] at hl
          unfold refBody
          have hlen : 1 ≤ (Lib.decDigits m.natAbs).length := by
            cases hx : Lib.decDigits m.natAbs with
            | nil => exact absurd hx h2
            | cons a b => simp
          rw [if_neg (by omega), if_neg (by rw [h1]; simp), if_neg (by
            rintro ⟨e, _⟩; have := h3 e; omega), if_pos (by rw [hr]; simp), h4]
          congr 1; omega
        · obtain ⟨h1, h2, h3, h4⟩ := val_dec m.toNat
          have hr : run = Lib.decDigits m.toNat := by rw [← hi]; unfold Lib.itoa; rw [if_neg hneg]
          have hh : ¬ run.head? = some 45 := by
            intro e
            rw [hr] at e
            cases hx : Lib.decDigits m.toNat with
            | nil => exact absurd hx h2
            | cons a b =>
              rw [hx] at e h1
              have : a = 45 := by simpa using e
              subst this
              simp [digsB] at h1
              exact absurd h1.1 (by decide)
          rw [if_neg hh] at hl
          unfold refNum
          rw [if_neg hh]
          unfold refBody
          have hlen : 1 ≤ run.length := by
            rw [hr]
            cases hx : Lib.decDigits m.toNat with
            | nil => exact absurd hx h2
            | cons a b => simp
          rw [if_neg (by omega), if_neg (by rw [hr, h1]; simp), if_neg (by
            rintro ⟨e, e2⟩
            rw [hr] at e
            have h0 := h3 e
            apply e2; rw [hr, h0]; exact Lib.decDigits_one (by omega)), if_neg (by omega)]
          rw [hr, h4]
          congr 1; omega
      · rw [if_neg hc] at h; cases h
  cases hr : refNum run with
  | none =>
    cases hn : numOf run with
    | none => rfl
    | some n => rw [back n hn] at hr; cases hr
  | some n =>
    unfold refNum at hr
    by_cases hh : run.head? = some 45
    · rw [if_pos hh] at hr
      obtain ⟨d, rfl⟩ : ∃ d, run = 45 :: d := by
        cases run with
        | nil => simp at hh
        | cons a b =>
          have : a = 45 := by simpa using hh
          exact ⟨b, by rw [this]⟩
      rw [List.tail_cons] at hr
      unfold refBody at hr
      by_cases c1 : d.length < 1 ∨ 18 < d.length
      · rw [if_pos c1] at hr; cases hr
      rw [if_neg c1] at hr
      by_cases c2 : digsB d = false
      · rw [if_pos c2] at hr; cases hr
      rw [if_neg c2] at hr
      by_cases c3 : d.head? = some 48 ∧ (45 :: d) ≠ [48]
      · rw [if_pos c3] at hr; cases hr
      rw [if_neg c3] at hr
      rw [if_pos (by simp)] at hr
      injection hr with hr
      rw [← hr]
      refine num_minus d (by rintro rfl; simp at c1) (by simpa using c2) (by omega) (fun e => c3 ⟨e, by simp⟩)
    · rw [if_neg hh] at hr
      unfold refBody at hr
      by_cases c1 : run.length < 1 ∨ 18 < run.length
      · rw [if_pos c1] at hr; cases hr
      rw [if_neg c1] at hr
      by_cases c2 : digsB run = false
      · rw [if_pos c2] at hr; cases hr
      rw [if_neg c2] at hr
      by_cases c3 : run.head? = some 48 ∧ run ≠ [48]
      · rw [if_pos c3] at hr; cases hr
      rw [if_neg c3] at hr
      rw [if_neg (by omega)] at hr
      injection hr with hr
      rw [← hr]
      refine num_plain run (by rintro rfl; simp at c1) (by simpa using c2) (by omega) (fun e => Classical.byContradiction fun e2 => c3 ⟨e, e2⟩)

end Go.Proofs.YtghhnnbbjlipcaaGreatDoor.X
