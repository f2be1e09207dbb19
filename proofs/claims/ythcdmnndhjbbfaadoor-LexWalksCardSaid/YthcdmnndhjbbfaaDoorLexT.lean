/-
  The walk of text.
-/
import Derived.Test.YthcdmnndhjbbfaaDoorLexE
import Derived.Maps.AppendAt
import Derived.Deep.AppendLies
import Derived.Laws.BytesArg
set_option linter.unusedVariables false
set_option linter.unusedSimpArgs false
namespace Go.Proofs.YthcdmnndhjbbfaaDoor.X
open Go.RowKit
/-- The cells of a Fault without a name and a cause. -/
abbrev faultObj (code at_ : Int) : Obj := .cells #[.int .i64 code, .int .i64 at_, .string ⟨#[]⟩, .nilIface] 51
theorem fault_any (code at_ : Int) (w : World) :
    Calls Tryd.prog 26 #[.int .i64 code, .int .i64 at_] w fun e w' => e = .returned (.pointer (some ⟨w.heap.size, 0, none⟩)) ∧ w.alloc (faultObj code at_) = w' := by
  go_enter Tryd.func26, Tryd.ntmps26
  go_wp2
  go_ret
  exact ⟨rfl, rfl⟩
/-- A token as a value. -/
def tokCells (t : Tk) : Array Value := #[.int .i64 t.kind, .string ⟨t.text.toArray⟩, .int .i64 t.num, .int .i64 t.at_, .int .i64 t.end_]
abbrev tokV (t : Tk) : Value := .agg (tokCells t)
abbrev zeroCells : Array Value := #[.int .i64 0, .string ⟨#[]⟩, .int .i64 0, .int .i64 0, .int .i64 0]
/-- What next and text answer. -/
def LexAns (w : World) (r : Res) (e : Ending) (w' : World) : Prop := match r with
  | .ok t => e = .returned (.tuple #[tokV t, .pointer none]) ∧ Below w.heap.size w w'
  | .error (c, a) => ∃ b, e = .returned (.tuple #[.agg zeroCells, .pointer (some ⟨b, 0, none⟩)]) ∧ w.heap.size ≤ b ∧ w'.heap[b]? = some (faultObj c a) ∧ Below w.heap.size w w'
theorem infoU8 : (Tryd.prog.info? 5).map (fun i => (i.zero, i.size, i.bytes)) = some (some (.int .u8 0), 1, 1) := by kernel_rfl
theorem own_base {w : World} {base n size : Nat} {e : TypeId} {v : Value} {xs : List Value} (h : w.ownsRow base e size v n xs) : ∀ k, v.ownBlock = some k → base ≤ k := by
  intro k hk
  rcases h.2 with ⟨rfl, _⟩ | ⟨g, cap, cur, rfl, hg, _⟩
  · simp [Value.ownBlock] at hk
  · simp [Value.ownBlock] at hk; omega
theorem own_slice {w : World} {base n : Nat} {e : TypeId} {size : Nat} {v : Value} {xs : List Value} (h : w.ownsRow base e size v n xs) : ∃ A c, v = .slice A n c := by
  rcases h.2 with ⟨rfl, rfl⟩ | ⟨g, cap, cur, rfl, _⟩
  · exact ⟨none, 0, rfl⟩
  · exact ⟨_, cap, rfl⟩
/-- append of some bytes that stand in the last block. -/
theorem app_bytes {ops : Array Oper} {rest : List Oper} {o : Oper} {a : Act} {Q : Exit → Act → World → Prop} {w0 W : World} (base : Nat) (hgd : o.guard = none) (s x : Operand)
    (ho : o.op = .call { callee := .builtin .append, args := #[s, x], argTypes := #[57, 57] })
    (v : Value) (xs ys : Bs) (cs : Array Value) (m : Nat) (hcs : cs.toList = Lib.byteCells ys) (hm : ys.length = m) (hs : a.eval s = v) (hx : a.eval x = .slice (some ⟨W.heap.size, 0, none⟩) m m)
    (HO : W.ownsRow base 5 1 v xs.length (Lib.byteCells xs)) (HB : Below base w0 W) (hbase : base ≤ W.heap.size) (hl : xs.length + m ≤ 140737488355328)
    (h : ∀ v1 w1, w1.ownsRow base 5 1 v1 (xs ++ ys).length (Lib.byteCells (xs ++ ys)) → Below base w0 w1 → (∀ k, k < W.heap.size → some k ≠ v.ownBlock → w1.heap[k]? = W.heap[k]?) → wpList Tryd.prog ops Q rest (a.put o.dst v1) w1) :
    wpList Tryd.prog ops Q (o :: rest) a (W.alloc (.cells cs 5)) := by
  obtain ⟨i0, hi, hz0, hz1, hz2⟩ := info_parts infoU8
  subst hm
  refine wpList_append_own_at (W.alloc (.cells cs 5)) hgd s x 57 ho base 5 i0 (.int .u8 0) 1 1 Tryd.underlying57 hi hz0 hz1 hz2 rfl (by omega) v xs.length _ hs (HO.alloc _) ⟨W.heap.size, 0, none⟩ ys.length ys.length (Lib.byteCells ys) hx (by simp [Lib.byteCells])
    (fun j u hu => World.news_of_block (cs := cs) (t := 5) (fr := (0, 0)) (heap_alloc_new W _) j u (by rw [hcs]; exact hu)) (by simp [Lib.byteCells, Value.oneCell']) (by simp only [maxLen]; omega) (by omega) (by simp; omega) ?_
  intro v1 w1 hown hg _ hat
  refine h v1 w1 (by simpa [Lib.byteCells] using hown) ((HB.alloc hbase _).grown hg (by simp; omega) (own_base HO)) (fun k hk hne => (hg.block k (by simp; omega) hne).trans (Below.heap_alloc _ _ _ hk))
theorem strOfNums_bytes (l : Bs) : strOfNums (l.map fun b => (b.toNat : Int)) = ⟨l.toArray⟩ := by
  unfold strOfNums
  rw [List.map_map]
  have e : ((fun n : Int => UInt8.ofNat n.toNat) ∘ fun b : UInt8 => (b.toNat : Int)) = id := by funext b; simp
  rw [e, List.map_id]
theorem conv_bytes {w : World} {base : Nat} {v : Value} {l : Bs} (h : w.ownsRow base 5 1 v l.length (Lib.byteCells l)) : (convert 57 9 v).run Tryd.prog w = .ok (.string ⟨l.toArray⟩) w := by
  rcases h.2 with ⟨rfl, h0⟩ | ⟨g, cap, cur, rfl, _⟩
  · have : l = [] := List.eq_nil_of_length_eq_zero h0
    subst this
    exact run_convert_bytes_nil _ 57 5 Tryd.underlying57 Tryd.underlying5 0 0 9 Tryd.underlying9
  · have := run_convert_bytes_arg w 57 5 Tryd.underlying57 Tryd.underlying5 g 0 l.length cap (l.map fun b => (b.toNat : Int)) (by simp) (fun i hi => by
      have hc := h.cells (g := g) rfl i (.int .u8 ((l.getD i 0).toNat : Int)) (by simp [Lib.byteCells, List.getD_eq_getElem?_getD, List.getElem?_eq_getElem hi])
      have ha : (⟨g, 0, none⟩ : Addr).add i = ⟨g, 0 + i, none⟩ := by unfold Addr.add; split <;> simp_all
      rw [ha] at hc
      rw [hc]
      simp [List.getD_eq_getElem?_getD, List.getElem?_eq_getElem hi]) 9 Tryd.underlying9
    rw [this, strOfNums_bytes]
theorem escL_len {l : Bs} {b : UInt8} {n : Nat} (h : escL l = some (b, n)) : 2 ≤ n ∧ n ≤ l.length + 1 ∧ n ≤ 4 := by
  cases l with
  | nil => simp [escL] at h
  | cons e l =>
    simp only [escL] at h
    repeat' split at h
    all_goals (first | (injection h with h; injection h with h1 h2; subst h2; simp) | cases h)

theorem strL_char (c : UInt8) (l : Bs) (off : Nat) (acc : Bs) (h1 : ¬ c = 34) (h2 : ¬ c < 32) (h3 : ¬ c = 92) : strL (c :: l) off acc = strL l (off + 1) (acc ++ [c]) := by
  rw [strL.eq_def]; simp [h1, h2, h3]
theorem strL_end (l : Bs) (off : Nat) (acc : Bs) : strL (34 :: l) off acc = .done acc (off + 1) := by rw [strL.eq_def]; simp
theorem strL_low (c : UInt8) (l : Bs) (off : Nat) (acc : Bs) (h1 : ¬ c = 34) (h2 : c < 32) : strL (c :: l) off acc = .byte off := by rw [strL.eq_def]; simp [h1, h2]
/-- What text comes to, of what its bytes come to. -/
def strRes (i : Nat) : StrR → Res
  | .open_ => .error (112, i)
  | .byte p => .error (111, p)
  | .esc p => .error (113, p)
  | .done b e => if 127 < b.length then .error (115, i) else .ok ⟨1, b, 0, i, e⟩
theorem textAt_eq (l : Bs) (i : Nat) : textAt l i = strRes i (strL (l.drop (i + 1)) (i + 1) []) := by unfold textAt strRes; rfl

theorem results_ct {P : Program} {fn : Func} {p u : Tmp} {ty : TypeId} (h : fn.results = #[.cell p ty, .tmp u]) (tmps : Array Value) (w : World) (g : Nat) (t : TypeId) (cs : Array Value) (fr : Nat × Nat) (d : TypeDesc) (uv : Value) (huv : tmps.getD u undef = uv)
    (hp : tmps.getD p undef = .pointer (some ⟨g, 0, none⟩)) (hg : w.heap[g]? = some (.cells cs t fr))
    (hu : P.underlying ty = some d) (hd : (match d with | .struct _ | .array _ _ => true | _ => false) = true) (hi : (P.info? ty).map (·.size) = some cs.size) :
    (results fn tmps).run P w = .ok (.tuple #[.agg cs, uv]) w := by
  subst huv
  have hp' : tmps[p]?.getD undef = .pointer (some ⟨g, 0, none⟩) := by simpa using hp
  simp [results, h, hp', asAddr, run_loadVar_row w g t ty cs fr d hg hu hd hi]
theorem tokSize : (Tryd.prog.info? 44).map (·.size) = some 5 := by kernel_rfl
/-- Five cells stored. -/
abbrev set5 (W : World) (g : Nat) (b0 b1 b2 b3 b4 : Value) : World := ((((W.setCell ⟨g, 0, none⟩ b0).setCell ⟨g, 1, none⟩ b1).setCell ⟨g, 2, none⟩ b2).setCell ⟨g, 3, none⟩ b3).setCell ⟨g, 4, none⟩ b4
theorem set5_same (W : World) (g : Nat) (T : TypeId) (a0 a1 a2 a3 a4 b0 b1 b2 b3 b4 : Value) (h : W.heap[g]? = some (.cells #[a0, a1, a2, a3, a4] T (0, 0))) : (set5 W g b0 b1 b2 b3 b4).heap[g]? = some (.cells #[b0, b1, b2, b3, b4] T (0, 0)) :=
  heap_setCell_same _ _ _ _ _ _ (heap_setCell_same _ _ _ _ _ _ (heap_setCell_same _ _ _ _ _ _ (heap_setCell_same _ _ _ _ _ _ (heap_setCell_same _ _ _ _ _ _ h))))
theorem set5_size (W : World) (g : Nat) (b0 b1 b2 b3 b4 : Value) : (set5 W g b0 b1 b2 b3 b4).heap.size = W.heap.size := by simp
theorem set5_below {B : Nat} {w W : World} (h : Below B w W) (g : Nat) (hg : B ≤ g) (b0 b1 b2 b3 b4 : Value) : Below B w (set5 W g b0 b1 b2 b3 b4) :=
  ((((h.setCell (p := ⟨g, 0, none⟩) hg _).setCell (p := ⟨g, 1, none⟩) hg _).setCell (p := ⟨g, 2, none⟩) hg _).setCell (p := ⟨g, 3, none⟩) hg _).setCell (p := ⟨g, 4, none⟩) hg _
/-- The end of a call that answers a fault. -/
theorem err_end {w wr : World} {o : Obj} (c : Int) (a : Nat) (hB : Below (w.heap.size + 1) (w.alloc o) wr) : LexAns w (.error (c, a)) (.returned (.tuple #[.agg zeroCells, .pointer (some ⟨wr.heap.size, 0, none⟩)])) ((set5 wr w.heap.size (.int .i64 0) (.string ⟨#[]⟩) (.int .i64 0) (.int .i64 0) (.int .i64 0)).alloc (faultObj c a)) := by
  have hs := hB.size
  simp only [World.size_alloc] at hs
  refine ⟨wr.heap.size, rfl, by omega, ?_, ?_⟩
  · have := Go.heap_alloc_new (set5 wr w.heap.size (.int .i64 0) (.string ⟨#[]⟩) (.int .i64 0) (.int .i64 0) (.int .i64 0)) (faultObj c a)
    rwa [set5_size] at this
  · refine (set5_below ?_ w.heap.size (Nat.le_refl _) _ _ _ _ _).alloc (by rw [set5_size]; omega) _
    exact ((Below.refl _ _).alloc (Nat.le_refl _) o).trans (hB.mono (by omega))
theorem err_row {w wr : World} (c : Int) (a : Int) (h : wr.heap[w.heap.size]? = some (.cells zeroCells 44 (0, 0))) : ((set5 wr w.heap.size (.int .i64 0) (.string ⟨#[]⟩) (.int .i64 0) (.int .i64 0) (.int .i64 0)).alloc (faultObj c a)).heap[w.heap.size]? = some (.cells zeroCells 44 (0, 0)) :=
  (Below.heap_alloc _ _ _ (by rw [set5_size]; exact (Array.getElem?_eq_some_iff.1 h).1)).trans (set5_same _ _ _ _ _ _ _ _ _ _ _ _ _ h)

set_option maxHeartbeats 8000000 in
set_option maxRecDepth 100000 in
theorem text_any (s : ByteArray) (i : Nat) (w : World) (hs : s.size ≤ 1000000000000) (hi : i < s.size) :
    Calls Tryd.prog 27 #[.string s, .int .i64 i] w (LexAns w (textAt s.data.toList i)) := by
  rw [textAt_eq]
  obtain ⟨R, hR⟩ : ∃ R, R = strL (s.data.toList.drop (i + 1)) (i + 1) [] := ⟨_, rfl⟩
  rw [← hR]
  have HR := Lib.hid hR
  clear hR
  go_enter Tryd.func27, Tryd.ntmps27
  go_wp2
  go_step3
  go_wp2
  go_step3
  go_wp2
  go_loopw [6, 7] (fun v j wr => ∃ (k : Nat) (acc : Bs), i + 1 ≤ k ∧ k ≤ s.size ∧ acc.length ≤ k ∧ j = .int .i64 k ∧ Hid (R = strL (s.data.toList.drop k) k acc) ∧ Hid (wr.ownsRow (w.heap.size + 1) 5 1 v acc.length (Lib.byteCells acc)) ∧ Hid (Below (w.heap.size + 1) (w.alloc (.cells zeroCells 44)) wr)) (fun _ j _ => s.size - (intOf j).toNat)
  case atStart => exact ⟨i + 1, [], Nat.le_refl _, by omega, by simp, rfl, HR, Lib.hid (World.ownsRow_nil _ _ _ _), Lib.hid (Below.refl _ _)⟩
  case round =>
    obtain ⟨k, acc, hik, hk, ha, rfl, HK, HO, HB⟩ := hrel
    clear HR
    have hbs := HB.out.size
    simp only [World.size_alloc] at hbs
    have tz := HB.out.block w.heap.size (by omega)
    rw [Go.heap_alloc_new] at tz
    have z0 : wr.cell? ⟨w.heap.size, 0, none⟩ = some (.int .i64 0) := (Lib.cell_of_heap tz _).trans rfl
    have z1 : wr.cell? ⟨w.heap.size, 1, none⟩ = some (.string ⟨#[]⟩) := (Lib.cell_of_heap tz _).trans rfl
    have z2 : wr.cell? ⟨w.heap.size, 2, none⟩ = some (.int .i64 0) := (Lib.cell_of_heap tz _).trans rfl
    have z3 : wr.cell? ⟨w.heap.size, 3, none⟩ = some (.int .i64 0) := (Lib.cell_of_heap tz _).trans rfl
    have z4 : wr.cell? ⟨w.heap.size, 4, none⟩ = some (.int .i64 0) := (Lib.cell_of_heap tz _).trans rfl
    have zf : ∀ j, wr.frozen? ⟨w.heap.size, j, none⟩ = false := fun j => by simp [World.frozen?, tz]
    have hzl : w.heap.size < wr.heap.size := by omega
    have HZ := Lib.hid tz
    clear tz
    by_cases hlt : k < s.size
    · have HD := Lib.hid (drop_at s k hlt)
      have hge : (0 : Int) ≤ (s[k].toNat : Int) := by omega
      by_cases c34 : s[k] = 34
      · have HE : Hid (R = .done acc (k + 1)) := Lib.hid (by rw [HK.out, HD.out, c34, strL_end])
        have e34 : ((s[k].toNat : Int) == 34) = true := byte_eq s[k] 34 c34
        have hlen := ha
        clear c34
        obtain ⟨Av, cv, rfl⟩ := own_slice HO.out
        by_cases h127 : 127 < acc.length
        · have hI : (127 : Int) < (acc.length : Int) := by omega
          have HE : Hid (strRes i R = .error (115, i)) := Lib.hid (by rw [HE.out]; simp [strRes, h127])
          clear h127
          go_wp2_with (go_at_call 26; refine (fault_any _ _ _).mono ?_; rintro e w5 ⟨rfl, rfl⟩)
          try rw [Exit.noGoto_ret]
          rw [HE.out]
          exact bodyPost_ret (results_ct rfl _ _ w.heap.size 44 zeroCells (0, 0) _ (.pointer (some ⟨wr.heap.size, 0, none⟩)) rfl rfl (err_row 115 i HZ.out) Tryd.underlying44 rfl (by rw [tokSize]; rfl)) rfl (err_end 115 i HB.out)
        · have hI : ¬ ((127 : Int) < (acc.length : Int)) := by omega
          have HE : Hid (strRes i R = .ok ⟨1, acc, 0, i, k + 1⟩) := Lib.hid (by rw [HE.out]; simp [strRes, h127])
          have hcv := conv_bytes HO.out
          clear h127
          go_wp2
          try rw [Exit.noGoto_ret]
          rw [HE.out]
          refine bodyPost_ret (results_ct rfl _ _ w.heap.size 44 #[.int .i64 1, .string ⟨acc.toArray⟩, .int .i64 0, .int .i64 i, .int .i64 ((k : Int) + 1)] (0, 0) _ (.pointer none) rfl rfl (set5_same _ _ _ _ _ _ _ _ _ _ _ _ _ HZ.out) Tryd.underlying44 rfl (by rw [tokSize]; rfl)) rfl ⟨rfl, ?_⟩
          exact set5_below (((Below.refl _ _).alloc (Nat.le_refl _) _).trans (HB.out.mono (by omega))) w.heap.size (Nat.le_refl _) _ _ _ _ _
      · have n34 : ((s[k].toNat : Int) == 34) = false := byte_ne s[k] 34 (by decide) c34
        by_cases c32 : s[k] < 32
        · have HE : Hid (R = .byte k) := Lib.hid (by rw [HK.out, HD.out, strL_low _ _ _ _ c34 c32])
          have hI : (s[k].toNat : Int) < 32 := by rw [UInt8.lt_iff_toNat_lt] at c32; simp at c32; omega
          clear c34 c32
          go_wp2_with (go_at_call 26; refine (fault_any _ _ _).mono ?_; rintro e w5 ⟨rfl, rfl⟩)
          try rw [Exit.noGoto_ret]
          rw [HE.out]
          exact bodyPost_ret (results_ct rfl _ _ w.heap.size 44 zeroCells (0, 0) _ (.pointer (some ⟨wr.heap.size, 0, none⟩)) rfl rfl (err_row 111 k HZ.out) Tryd.underlying44 rfl (by rw [tokSize]; rfl)) rfl (err_end 111 k HB.out)
        · have hI : ¬ ((s[k].toNat : Int) < 32) := by rw [UInt8.lt_iff_toNat_lt] at c32; simp at c32; omega
          by_cases c92 : s[k] = 92
          · have HK2 : Hid (R = escK (s.data.toList.drop k) k acc (escL (s.data.toList.drop (k + 1)))) := Lib.hid (by rw [HK.out, HD.out, c92, strL_esc])
            have e92 : ((s[k].toNat : Int) == 92) = true := byte_eq s[k] 92 c92
            have EC := Lib.hid (fun W => escape_any s k W hs hlt)
            clear c34 c32 c92
            cases hes : escL (s.data.toList.drop (k + 1)) with
            | none =>
              rw [hes] at EC HK2
              have HE : Hid (R = .esc k) := Lib.hid HK2.out
              simp only [escV] at EC
              clear hes
              go_wp2_with (first | (go_at_call 36; refine (EC.out _).mono ?_; rintro e w3 ⟨rfl, hB3⟩; have HB3 := Lib.hid (HB.out.trans (hB3.mono (by omega))); have tz3 := (hB3.block _ (by omega)).trans HZ.out; have HZ3 := Lib.hid tz3; have y0 : w3.cell? ⟨w.heap.size, 0, none⟩ = some (.int .i64 0) := (Lib.cell_of_heap tz3 _).trans rfl; have y1 : w3.cell? ⟨w.heap.size, 1, none⟩ = some (.string ⟨#[]⟩) := (Lib.cell_of_heap tz3 _).trans rfl; have y2 : w3.cell? ⟨w.heap.size, 2, none⟩ = some (.int .i64 0) := (Lib.cell_of_heap tz3 _).trans rfl; have y3 : w3.cell? ⟨w.heap.size, 3, none⟩ = some (.int .i64 0) := (Lib.cell_of_heap tz3 _).trans rfl; have y4 : w3.cell? ⟨w.heap.size, 4, none⟩ = some (.int .i64 0) := (Lib.cell_of_heap tz3 _).trans rfl; have yf : ∀ j, w3.frozen? ⟨w.heap.size, j, none⟩ = false := (fun j => by simp [World.frozen?, tz3]); have hzl3 : w.heap.size < w3.heap.size := Nat.lt_of_lt_of_le hzl hB3.size; clear hB3 tz3) | (go_at_call 26; refine (fault_any _ _ _).mono ?_; rintro e w5 ⟨rfl, rfl⟩))
              try rw [Exit.noGoto_ret]
              rw [HE.out]
              exact bodyPost_ret (results_ct rfl _ _ w.heap.size 44 zeroCells (0, 0) _ (.pointer (some ⟨w3.heap.size, 0, none⟩)) rfl rfl (err_row 113 k HZ3.out) Tryd.underlying44 rfl (by rw [tokSize]; rfl)) rfl (err_end 113 k HB3.out)
            | some x =>
              obtain ⟨b, n⟩ := x
              have hle := escL_len hes
              have hdl : (s.data.toList.drop (k + 1)).length = s.size - (k + 1) := by simp
              rw [hes] at EC HK2
              have HE : Hid (R = strL (s.data.toList.drop (k + n)) (k + n) (acc ++ [b])) := Lib.hid (by rw [HK2.out]; simp only [escK, List.drop_drop])
              obtain ⟨hn2, hn3, hn4⟩ := hle
              rw [hdl] at hn3
              have hkn : ((k : Int) + (n : Int) == 0) = false := by simp; omega
              have hz : (((k + n : Nat) : Int) == 0) = false := by simp; omega
              clear hes hdl HK2
              simp only [escV] at EC
              go_wp2_with (first | (go_at_call 36; refine (EC.out _).mono ?_; rintro e w3 ⟨rfl, hB3⟩; have HB3 := Lib.hid (HB.out.trans (hB3.mono (by omega))); have HO3 := Lib.hid (HO.out.kept (row := none) ⟨hB3.os, hB3.tape, hB3.output, hB3.size, fun i hi _ => hB3.block i hi⟩ (by cases Value.ownBlock _ <;> simp)); have hz3 := hB3.size; clear hB3) | (at_builtin; go_loud (refine app_bytes (w.heap.size + 1) rfl (.tmp 57) (.tmp 59) rfl _ acc [b] _ 1 rfl rfl rfl rfl HO3.out HB3.out (by omega) (by omega) ?_; intro v1 w4 hown hb4 _)))
              go_roundw
              case rel => exact ⟨k + n, acc ++ [b], by omega, by omega, by simp; omega, rfl, HE, Lib.hid hown, Lib.hid hb4⟩
              case measure => simp [intOf]; omega
          · have HE : Hid (R = strL (s.data.toList.drop (k + 1)) (k + 1) (acc ++ [s[k]])) := Lib.hid (by rw [HK.out, HD.out, strL_char _ _ _ _ c34 c32 c92])
            have n92 : ((s[k].toNat : Int) == 92) = false := byte_ne s[k] 92 (by decide) c92
            clear c34 c32 c92
            go_wp2_with (at_builtin; go_loud (refine app_bytes (w.heap.size + 1) rfl (.tmp 12) (.tmp 16) rfl _ acc [s[k]] _ 1 rfl rfl rfl rfl HO.out HB.out (by omega) (by omega) ?_; intro v1 w4 hown hb4 _))
            go_roundw
            case rel => exact ⟨k + 1, acc ++ [s[k]], by omega, by omega, by simp; omega, by go_num, HE, Lib.hid hown, Lib.hid hb4⟩
            case measure => simp [intOf]; omega
    · have hI : (s.size : Int) ≤ (k : Int) := by omega
      have HE : Hid (R = .open_) := Lib.hid (by rw [HK.out, drop_end s k (by omega)]; rfl)
      go_wp2_with (go_at_call 26; refine (fault_any _ _ _).mono ?_; rintro e w5 ⟨rfl, rfl⟩)
      try rw [Exit.noGoto_ret]
      rw [HE.out]
      exact bodyPost_ret (results_ct rfl _ _ w.heap.size 44 zeroCells (0, 0) _ (.pointer (some ⟨wr.heap.size, 0, none⟩)) rfl rfl (err_row 112 i HZ.out) Tryd.underlying44 rfl (by rw [tokSize]; rfl)) rfl (err_end 112 i HB.out)

end Go.Proofs.YthcdmnndhjbbfaaDoor.X
