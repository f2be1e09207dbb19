/-
  The walk of SameTokens; tokens that are read.
-/
import Derived.Test.YthcdmnndhjbbfaaDoorScan
import Derived.Laws.StructEq
set_option linter.unusedVariables false
set_option linter.unusedSimpArgs false
namespace Go.Proofs.YthcdmnndhjbbfaaDoor.X
open Go.RowKit
/-- A slice of tokens that reads as ts. -/
def TokAt (w : World) (v : Value) (ts : List Tk) : Prop :=
  (v = .slice none 0 0 ∧ ts = []) ∨ ∃ g cap, v = .slice (some ⟨g, 0, none⟩) ts.length cap ∧ g < w.heap.size ∧ ∀ k (h : k < ts.length) j u, (tokCells ts[k]).toList[j]? = some u → w.cell? ⟨g, k * 5 + j, none⟩ = some u
theorem tokRow_at (ts : List Tk) : ∀ (k : Nat) (h : k < ts.length) (j : Nat), j < 5 → (tokRow ts)[k * 5 + j]? = (tokCells ts[k]).toList[j]? := by
  induction ts with
  | nil => intro k h; simp at h
  | cons t ts ih =>
    intro k h j hj
    have e : tokRow (t :: ts) = (tokCells t).toList ++ tokRow ts := by simp [tokRow]
    have hl : (tokCells t).toList.length = 5 := rfl
    rw [e]
    cases k with
    | zero => rw [List.getElem?_append_left (by rw [hl]; omega)]; simp
    | succ k =>
      rw [List.getElem?_append_right (by rw [hl]; omega), hl, show (k + 1) * 5 + j - 5 = k * 5 + j by omega]
      have := ih k (by simpa using h) j hj
      simpa using this
theorem tokAt_of_own {w : World} {base : Nat} {v : Value} {ts : List Tk} (h : TokSl w base v ts) : TokAt w v ts := by
  rcases h.2 with ⟨rfl, h0⟩ | ⟨g, cap, cur, rfl, _, hg, _⟩
  · exact .inl ⟨rfl, List.eq_nil_of_length_eq_zero h0⟩
  · refine .inr ⟨g, cap, rfl, (Array.getElem?_eq_some_iff.1 hg).1, fun k hk j u hu => ?_⟩
    have hj : j < 5 := by have := (List.getElem?_eq_some_iff.1 hu).1; exact this
    have := h.cells (g := g) rfl (k * 5 + j) u (by rw [tokRow_at ts k hk j hj]; exact hu)
    rw [← this]
    unfold Addr.add
    dsimp only
    split
    · rename_i h0
      rw [h0]
    · rw [Nat.zero_add]
theorem TokAt.kept {w w' : World} {v : Value} {ts : List Tk} (h : TokAt w v ts) (hb : Below w.heap.size w w') : TokAt w' v ts := by
  rcases h with h | ⟨g, cap, h1, h2, h3⟩
  · exact .inl h
  · exact .inr ⟨g, cap, h1, Nat.lt_of_lt_of_le h2 hb.size, fun k hk j u hu => (World.cell?_of_block (a := ⟨g, k * 5 + j, none⟩) (hb.block g h2)).trans (h3 k hk j u hu)⟩
theorem TokAt.slice {w : World} {v : Value} {ts : List Tk} (h : TokAt w v ts) : ∃ a cap, v = .slice a ts.length cap := by
  rcases h with ⟨rfl, rfl⟩ | ⟨g, cap, h1, _⟩
  · exact ⟨none, 0, rfl⟩
  · exact ⟨_, cap, h1⟩
theorem str_eq (a b : Bs) : ((⟨a.toArray⟩ : ByteArray).toList == (⟨b.toArray⟩ : ByteArray).toList) = decide (a = b) := by
  rw [ByteArray.toList_eq, ByteArray.toList_eq]
  simp only
  by_cases h : a = b <;> simp [h]
/-- Two tokens compared. -/
theorem run_neq_tok (a b : Tk) (w : World) : (binOp .neq 44 (.agg #[.int .i64 a.kind, .string ⟨a.text.toArray⟩, .int .i64 a.num, .int .i64 a.at_, .int .i64 a.end_]) (.agg #[.int .i64 b.kind, .string ⟨b.text.toArray⟩, .int .i64 b.num, .int .i64 b.at_, .int .i64 b.end_])).run Tryd.prog w = .ok (.bool (!decide (a = b))) w := by
  rw [run_neq_struct, show (10000 : Nat) = 9999 + 1 from rfl, run_equalIn_agg w 9999 44 _ _ (by kernel_rfl) (by kernel_rfl)]
  simp [Program.fieldsOf, Tryd.underlying44, Op.eqFields, go_sem]
  obtain ⟨k1, x1, n1, a1, e1⟩ := a
  obtain ⟨k2, x2, n2, a2, e2⟩ := b
  simp only [Tk.mk.injEq]
  by_cases h1 : k1 = k2 <;> by_cases h2 : x1 = x2 <;> by_cases h3 : n1 = n2 <;> by_cases h4 : a1 = a2 <;> by_cases h5 : e1 = e2 <;> simp [h1, h2, h3, h4, h5, Int.natCast_inj]
theorem take_eq {ta tb : List Tk} (hl : ta.length = tb.length) (h : ta.take ta.length = tb.take ta.length) : ta = tb := by
  rw [List.take_length, hl, List.take_length] at h; exact h
theorem take_same {ta tb : List Tk} {k : Nat} (ha : k < ta.length) (hb : k < tb.length) (h : ta.take k = tb.take k) (he : ta[k] = tb[k]) : ta.take (k + 1) = tb.take (k + 1) := by
  rw [List.take_succ_eq_append_getElem ha, List.take_succ_eq_append_getElem hb, h, he]

set_option maxHeartbeats 4000000 in
set_option maxRecDepth 100000 in
theorem same_any (va vb : Value) (ta tb : List Tk) (w : World) (ha : TokAt w va ta) (hb : TokAt w vb tb) (hla : ta.length ≤ 1000000000000) (hlb : tb.length ≤ 1000000000000) :
    Calls Tryd.prog 20 #[va, vb] w fun e w' => e = .returned (.bool (decide (ta = tb))) ∧ Below w.heap.size w w' := by
  by_cases hl : ta.length = tb.length
  · rcases ha with ⟨rfl, rfl⟩ | ⟨ga, ca, rfl, hga, ha⟩
    · have : tb = [] := List.eq_nil_of_length_eq_zero hl.symm
      subst this
      obtain ⟨x, y, rfl⟩ := hb.slice
      clear hb hla hlb hl
      go_enter Tryd.func20, Tryd.ntmps20
      go_wp2
      go_loopw [13] (fun v wr => v = .int .i64 0 ∧ w = wr) (fun v _ => 0)
      case atStart => exact ⟨rfl, rfl⟩
      case round =>
        obtain ⟨rfl, rfl⟩ := hrel
        go_wp2
        go_ret
        exact ⟨rfl, Below.refl _ _⟩
    · rcases hb with ⟨rfl, rfl⟩ | ⟨gb, cb, rfl, hgb, hb⟩
      · have : ta = [] := List.eq_nil_of_length_eq_zero hl
        subst this
        clear ha hla hlb hl
        go_enter Tryd.func20, Tryd.ntmps20
        go_wp2
        go_loopw [13] (fun v wr => v = .int .i64 0 ∧ w = wr) (fun v _ => 0)
        case atStart => exact ⟨rfl, rfl⟩
        case round =>
          obtain ⟨rfl, rfl⟩ := hrel
          go_wp2
          go_ret
          exact ⟨rfl, Below.refl _ _⟩
      · have HA := Lib.hid ha
        have HB := Lib.hid hb
        have HL := Lib.hid hl
        obtain ⟨n, hn⟩ : ∃ n, n = ta.length := ⟨_, rfl⟩
        have hnb : tb.length = n := by omega
        have HNA := Lib.hid hn
        have HNB := Lib.hid hnb
        rw [hnb, ← hn]
        have hn2 : n ≤ 1000000000000 := by omega
        clear ha hb hl hn hnb hla hlb
        go_enter Tryd.func20, Tryd.ntmps20
        go_wp2
        go_loopw [13] (fun v wr => ∃ k : Nat, k ≤ n ∧ v = .int .i64 k ∧ Hid (ta.take k = tb.take k) ∧ Hid (Below w.heap.size w wr)) (fun v _ => n - (intOf v).toNat)
        case atStart => exact ⟨0, by omega, rfl, Lib.hid rfl, Lib.hid (Below.refl _ _)⟩
        case round =>
          obtain ⟨k, hk, rfl, HK, HW⟩ := hrel
          by_cases hlt : k < n
          · have hka : k < ta.length := by have := HNA.out; omega
            have hkb : k < tb.length := by have := HNB.out; omega
            have hI : (k : Int) < (n : Int) := by omega
            have ca : ∀ j u, (tokCells ta[k]).toList[j]? = some u → wr.cell? ⟨ga, k * 5 + j, none⟩ = some u := fun j u hu => (World.cell?_of_block (a := ⟨ga, k * 5 + j, none⟩) (HW.out.block ga hga)).trans (HA.out k hka j u hu)
            have cb : ∀ j u, (tokCells tb[k]).toList[j]? = some u → wr.cell? ⟨gb, k * 5 + j, none⟩ = some u := fun j u hu => (World.cell?_of_block (a := ⟨gb, k * 5 + j, none⟩) (HW.out.block gb hgb)).trans (HB.out k hkb j u hu)
            have HT : Hid (ta[k] = tb[k] → ta.take (k + 1) = tb.take (k + 1)) := Lib.hid (take_same hka hkb HK.out)
            have HF : Hid (ta[k] ≠ tb[k] → ta ≠ tb) := Lib.hid (fun h1 h2 => h1 (by subst h2; rfl))
            generalize ta[k] = x at ca HT HF
            generalize tb[k] = y at cb HT HF
            have a0 : wr.cell? ⟨ga, k * 5, none⟩ = some (.int .i64 x.kind) := ca 0 _ rfl
            have a1 : wr.cell? ⟨ga, k * 5 + 1, none⟩ = some (.string ⟨x.text.toArray⟩) := ca 1 _ rfl
            have a2 : wr.cell? ⟨ga, k * 5 + 2, none⟩ = some (.int .i64 x.num) := ca 2 _ rfl
            have a3 : wr.cell? ⟨ga, k * 5 + 3, none⟩ = some (.int .i64 x.at_) := ca 3 _ rfl
            have a4 : wr.cell? ⟨ga, k * 5 + 4, none⟩ = some (.int .i64 x.end_) := ca 4 _ rfl
            have b0 : wr.cell? ⟨gb, k * 5, none⟩ = some (.int .i64 y.kind) := cb 0 _ rfl
            have b1 : wr.cell? ⟨gb, k * 5 + 1, none⟩ = some (.string ⟨y.text.toArray⟩) := cb 1 _ rfl
            have b2 : wr.cell? ⟨gb, k * 5 + 2, none⟩ = some (.int .i64 y.num) := cb 2 _ rfl
            have b3 : wr.cell? ⟨gb, k * 5 + 3, none⟩ = some (.int .i64 y.at_) := cb 3 _ rfl
            have b4 : wr.cell? ⟨gb, k * 5 + 4, none⟩ = some (.int .i64 y.end_) := cb 4 _ rfl
            clear ca cb
            by_cases hxy : x = y
            · have NT : ∀ W, (binOp .neq 44 (.agg #[.int .i64 x.kind, .string ⟨x.text.toArray⟩, .int .i64 x.num, .int .i64 x.at_, .int .i64 x.end_]) (.agg #[.int .i64 y.kind, .string ⟨y.text.toArray⟩, .int .i64 y.num, .int .i64 y.at_, .int .i64 y.end_])).run Tryd.prog W = .ok (.bool false) W := fun W => by rw [run_neq_tok x y W, decide_eq_true hxy]; rfl
              have HT2 := Lib.hid (HT.out hxy)
              clear hxy HT HF
              go_wp2
              go_quiet (fail)
              go_wp2
              go_roundw
              case rel => exact ⟨k + 1, hlt, by go_num, HT2, Lib.hid (below_drewN HW.out _)⟩
              case measure => simp [intOf]; omega
            · have NT : ∀ W, (binOp .neq 44 (.agg #[.int .i64 x.kind, .string ⟨x.text.toArray⟩, .int .i64 x.num, .int .i64 x.at_, .int .i64 x.end_]) (.agg #[.int .i64 y.kind, .string ⟨y.text.toArray⟩, .int .i64 y.num, .int .i64 y.at_, .int .i64 y.end_])).run Tryd.prog W = .ok (.bool true) W := fun W => by rw [run_neq_tok x y W, decide_eq_false hxy]; rfl
              have HF2 := Lib.hid (HF.out hxy)
              clear hxy HT HF
              go_wp2
              go_quiet (fail)
              go_wp2
              go_ret
              exact ⟨by rw [decide_eq_false HF2.out]; rfl, below_drewN HW.out _⟩
          · have hE : Hid (ta = tb) := Lib.hid (take_eq HL.out (by
              have := HNA.out
              have : k = ta.length := by omega
              rw [← this]; exact HK.out))
            have hI : ¬ ((k : Int) < (n : Int)) := by omega
            go_wp2
            go_ret
            exact ⟨by rw [decide_eq_true hE.out]; rfl, HW.out⟩
  · have hI : ((ta.length : Int) != (tb.length : Int)) = true := by simpa using fun h => hl (by omega)
    have HF : Hid (decide (ta = tb) = false) := Lib.hid (decide_eq_false (fun h => hl (by rw [h])))
    obtain ⟨x, y, rfl⟩ := ha.slice
    obtain ⟨x2, y2, rfl⟩ := hb.slice
    clear hl ha hb
    go_enter Tryd.func20, Tryd.ntmps20
    go_wp2
    go_ret
    exact ⟨by rw [HF.out]; rfl, Below.refl _ _⟩

end Go.Proofs.YthcdmnndhjbbfaaDoor.X
