/-
  The walk of sameInts, its world told.
  The walk of form.
  The walk of form, joined.
-/
import Derived.Test.YtghhnnbbjlipcaaDoorParWake
import Derived.Test.YtghhnnbbjlipcaaDoorPlEither
import Derived.Laws.AppendOwnNone
import Derived.Deep.RegionWith
set_option linter.unusedVariables false
set_option linter.unusedSimpArgs false
namespace Go.Proofs.YtghhnnbbjlipcaaDoor.X
open Go.RowKit
set_option maxHeartbeats 4000000 in
set_option maxRecDepth 100000 in
theorem sameInts_q (va vb : Value) (ta tb : List Int) (w : World) (ha : IntsAt w va ta) (hb : IntsAt w vb tb) (hla : ta.length ≤ 1000000000000) (hlb : tb.length ≤ 1000000000000) :
    Calls Tryd.prog 18 #[va, vb] w fun e w' => e = .returned (.bool (decide (ta = tb))) ∧ ∃ m, w' = w.drewN m := by
  by_cases hl : ta.length = tb.length
  · by_cases h0 : ta = []
    · have h1 : tb = [] := List.eq_nil_of_length_eq_zero (by rw [← hl, h0]; rfl)
      subst h0 h1
      obtain ⟨x, y, rfl⟩ := ha.form
      obtain ⟨x2, y2, rfl⟩ := hb.form
      clear ha hb hla hlb hl
      simp only [List.length_nil]
      go_enter Tryd.func18, Tryd.ntmps18
      go_wp2
      go_loopw [5] (fun v wr => v = .int .i64 0 ∧ w = wr) (fun v _ => 0)
      case atStart => exact ⟨rfl, rfl⟩
      case round =>
        obtain ⟨rfl, rfl⟩ := hrel
        go_wp2
        go_ret
        exact ⟨rfl, 0, (World.drewN_zero _).symm⟩
    · have h1 : ¬ tb = [] := fun e => h0 (List.eq_nil_of_length_eq_zero (by rw [hl, e]; rfl))
      rcases ha with ⟨e, _⟩ | ⟨ga, oa, ca, rfl, hga, ha⟩
      · exact absurd e h0
      rcases hb with ⟨e, _⟩ | ⟨gb, ob, cb, rfl, hgb, hb⟩
      · exact absurd e h1
      have HA := Lib.hid ha
      have HB := Lib.hid hb
      obtain ⟨n, hn⟩ : ∃ n, n = ta.length := ⟨_, rfl⟩
      have hnb : tb.length = n := by omega
      have HL := Lib.hid hl
      have HNA := Lib.hid hn
      have HNB := Lib.hid hnb
      rw [hnb, ← hn]
      have hn2 : n ≤ 1000000000000 := by omega
      clear ha hb hl hn hnb hla hlb h0 h1
      go_enter Tryd.func18, Tryd.ntmps18
      go_wp2
      go_loopw [5] (fun v wr => ∃ k : Nat, k ≤ n ∧ v = .int .i64 k ∧ Hid (ta.take k = tb.take k) ∧ ∃ nd, w.drewN nd = wr) (fun v _ => n - (intOf v).toNat)
      case atStart => exact ⟨0, by omega, rfl, Lib.hid rfl, 0, World.drewN_zero _⟩
      case round =>
        obtain ⟨k, hk, rfl, HK, nd, rfl⟩ := hrel
        by_cases hlt : k < n
        · have hka : k < ta.length := by have := HNA.out; omega
          have hkb : k < tb.length := by have := HNB.out; omega
          have hI : (k : Int) < (n : Int) := by omega
          have a0 : w.cell? ⟨ga, oa + k, none⟩ = some (.int .i64 ta[k]) := HA.out k hka
          have b0 : w.cell? ⟨gb, ob + k, none⟩ = some (.int .i64 tb[k]) := HB.out k hkb
          have HT : Hid (ta[k] = tb[k] → ta.take (k + 1) = tb.take (k + 1)) := Lib.hid (int_take hka hkb HK.out)
          have HF : Hid (ta[k] ≠ tb[k] → ta ≠ tb) := Lib.hid (fun h1 h2 => h1 (by subst h2; rfl))
          generalize ta[k] = x at a0 HT HF
          generalize tb[k] = y at b0 HT HF
          by_cases hxy : x = y
          · have e0 : (x != y) = false := by rw [hxy]; simp
            have HT2 := Lib.hid (HT.out hxy)
            clear hxy HT HF
            go_wp2
            go_quiet (fail)
            go_wp2
            go_roundw
            case rel => exact ⟨k + 1, by omega, by go_num, HT2, _, rfl⟩
            case measure => simp [intOf]; omega
          · have e0 : (x != y) = true := by rw [bne_iff_ne]; exact hxy
            have HF2 := Lib.hid (HF.out hxy)
            clear hxy HT HF
            go_wp2
            go_quiet (fail)
            go_wp2
            go_ret
            exact ⟨by simp [HF2.out], _, World.drewN_drewN _ _ _⟩
        · have hI : ¬ ((k : Int) < (n : Int)) := by omega
          have HE : Hid (ta = tb) := Lib.hid (int_all HL.out (by have := HK.out; rw [show k = ta.length by have := HNA.out; omega] at this; exact this))
          go_wp2
          go_ret
          exact ⟨by simp [HE.out], _, rfl⟩
  · have hne : ¬ ta = tb := fun e => hl (by rw [e])
    obtain ⟨x, y, rfl⟩ := ha.form
    obtain ⟨x2, y2, rfl⟩ := hb.form
    have e0 : ((ta.length : Int) != (tb.length : Int)) = true := by rw [bne_iff_ne]; omega
    clear ha hb
    generalize ta.length = la at *
    generalize tb.length = lb at *
    have HN := Lib.hid hne
    clear hne hl
    go_enter Tryd.func18, Tryd.ntmps18
    go_wp2
    go_ret
    exact ⟨by simp [HN.out], 0, (World.drewN_zero _).symm⟩

end Go.Proofs.YtghhnnbbjlipcaaDoor.X

set_option linter.unusedVariables false
set_option linter.unusedSimpArgs false
namespace Go.Proofs.YtghhnnbbjlipcaaDoor.X
open Go.RowKit
theorem runF_len : ∀ (ps : List PD) (f g : List Nat) (i : Nat), runF f i ps = some g → g.length ≤ f.length + ps.length
  | [], f, g, i, h => by injection h with h; subst h; simp
  | p :: ps, f, g, i, h => by
    simp only [runF] at h
    cases hs : stepF f i p with
    | none => rw [hs] at h; cases h
    | some f1 =>
      rw [hs] at h
      have h1 := runF_len ps f1 g (i + 1) h
      unfold stepF at hs
      split at hs
      · injection hs with hs
        rw [← hs] at h1
        simp only [List.length_append, List.length_take, List.length_cons, List.length_nil] at h1 ⊢
        omega
      · cases hs
/-- One part on. -/
theorem run_step {ps : List PD} {r F : List Nat} {k : Nat} (hr : runF [] 0 ps = some r) (hF : runF [] 0 (ps.take k) = some F) (hk : k < ps.length) :
    fitsP F ps[k] ∧ runF [] 0 (ps.take (k + 1)) = some (F.take (F.length - ps[k].kids.length) ++ [k]) := by
  have e1 : ps = ps.take k ++ (ps[k] :: ps.drop (k + 1)) := by rw [← List.drop_eq_getElem_cons hk, List.take_append_drop]
  have hl : (ps.take k).length = k := by rw [List.length_take]; omega
  have h1 : runF F k (ps[k] :: ps.drop (k + 1)) = some r := by
    have := runF_append (ps.take k) (ps[k] :: ps.drop (k + 1)) [] F 0 hF
    rw [← e1, hr, hl, Nat.zero_add] at this
    exact this.symm
  simp only [runF] at h1
  by_cases hf : fitsP F ps[k]
  · refine ⟨hf, ?_⟩
    rw [List.take_succ_eq_append_getElem hk, runF_append _ _ _ _ _ hF, hl, Nat.zero_add]
    simp only [runF, stepF, if_pos hf]
  · simp only [stepF, if_neg hf] at h1
    cases h1
theorem partRow_at : ∀ (ps : List PD) (kv : List Value) (hl : kv.length = ps.length) (k : Nat) (hk : k < ps.length) (j : Nat), j < 4 → (partRow ps kv)[k * 4 + j]? = (partCells ps[k] (kv.getD k undef))[j]?
  | [], _, _, k, hk, _, _ => by simp at hk
  | p :: ps, [], hl, _, _, _, _ => by simp at hl
  | p :: ps, v :: kv, hl, k, hk, j, hj => by
    have h4 : (partCells p v).length = 4 := rfl
    simp only [partRow]
    cases k with
    | zero => rw [List.getElem?_append_left (by rw [h4]; omega)]; simp
    | succ k =>
      rw [List.getElem?_append_right (by rw [h4]; omega), h4, show (k + 1) * 4 + j - 4 = k * 4 + j by omega]
      have := partRow_at ps kv (by simpa using hl) k (by simpa using hk) j hj
      simpa using this
theorem RowIn.shp {w : World} {base e size n : Nat} {v : Value} {xs : List Value} (h : RowIn w base e size v n xs) : ∃ a, v = .slice a n n := by
  rcases h.at_ with ⟨h1, h2⟩ | ⟨g, cur, h1, _⟩
  · exact ⟨none, by rw [h1, h2]⟩
  · exact ⟨_, h1⟩
/-- The cells of a part of a tree that lies there. -/
theorem TreeAt.part {w : World} {base : Nat} {vp vo : Value} {kv : List Value} {ps : List PD} {offs : List Nat} (h : TreeAt w base vp vo kv ps offs) {k : Nat} (hk : k < ps.length) :
    ∃ g a c, vp = .slice (some ⟨g, 0, none⟩) ps.length ps.length ∧ g < w.heap.size ∧ kv.getD k undef = .slice a ps[k].kids.length c ∧ w.cell? ⟨g, k * 4, none⟩ = some (.int .i64 ps[k].kind) ∧ w.cell? ⟨g, k * 4 + 1, none⟩ = some (.string ⟨ps[k].text.toArray⟩) ∧
      w.cell? ⟨g, k * 4 + 2, none⟩ = some (.int .i64 ps[k].num) ∧ w.cell? ⟨g, k * 4 + 3, none⟩ = some (.slice a ps[k].kids.length c) ∧ IntsAt w (.slice a ps[k].kids.length c) (ps[k].kids.map fun i : Nat => (i : Int)) := by
  obtain ⟨g, h1, h2, h3, h4⟩ := h.parts.form (by omega)
  obtain ⟨a, c, hv⟩ := own_form (h.kids k hk)
  have hi := kid_ints (h.kids k hk)
  rw [hv] at hi
  have hc : ∀ j u, j < 4 → (partCells ps[k] (.slice a ps[k].kids.length c))[j]? = some u → w.cell? ⟨g, k * 4 + j, none⟩ = some u := fun j u hj hu => by
    rw [h4 (k * 4 + j) (by omega), partRow_at ps kv h.klen k hk j hj, hv]; exact hu
  exact ⟨g, a, c, h1, h3, hv, hc 0 _ (by omega) rfl, hc 1 _ (by omega) rfl, hc 2 _ (by omega) rfl, hc 3 _ (by omega) rfl, hi⟩
set_option maxRecDepth 100000 in
/-- append of a row of numbers to an empty row that has just been written down. -/
theorem app_copy {ops : Array Oper} {rest : List Oper} {o : Oper} {a : Act} {Q : Exit → Act → World → Prop} {W0 : World} (base : Nat) (hgd : o.guard = none) (s x : Operand)
    (ho : o.op = .call { callee := .builtin .append, args := #[s, x], argTypes := #[26, 26] }) (gl g3 c3 m : Nat) (xs : List Nat)
    (hgl : gl = W0.heap.size) (hs : a.eval s = .slice (some ⟨gl, 0, none⟩) 0 0) (hx : a.eval x = .slice (some ⟨g3, 0, none⟩) m c3) (hm : xs.length = m) (hg : g3 < W0.heap.size)
    (hc : ∀ j (h : j < xs.length), W0.cell? ⟨g3, j, none⟩ = some (.int .i64 (xs[j] : Nat))) (hbase : base ≤ W0.heap.size) (hl : xs.length ≤ 1000000)
    (h : ∀ v1 w1, w1.ownsRow base 3 1 v1 xs.length (xs.map fun x => Value.int .i64 (x : Nat)) → Below W0.heap.size W0 w1 → wpList Tryd.prog ops Q rest (a.put o.dst v1) w1) :
    wpList Tryd.prog ops Q (o :: rest) a (W0.alloc (.cells #[] 3)) := by
  obtain ⟨i0, hi, hz0, hz1, hz2⟩ := info_parts infoInt
  subst hgl
  subst hm
  have hown := World.ownsRow_lit (base := base) (e := 3) (size := 1) W0 #[] 0 hbase (by simp only [maxLen]; omega) (by simp)
  refine wpList_append_own_at (W0.alloc (.cells #[] 3)) hgd s x 26 ho base 3 i0 (.int .i64 0) 1 8 Tryd.underlying26 hi hz0 hz1 hz2 rfl (by omega) _ 0 _ hs hown ⟨g3, 0, none⟩ xs.length c3 (xs.map fun x => Value.int .i64 (x : Nat)) hx (by simp)
    (fun j u hu => ?_) (by intro u hu; rw [List.mem_map] at hu; obtain ⟨y, _, rfl⟩ := hu; rfl) (by simp only [maxLen]; omega) (by omega) (by simp; omega) ?_
  · rw [List.getElem?_map] at hu
    have hj : j < xs.length := by
      rcases Nat.lt_or_ge j xs.length with h1 | h1
      · exact h1
      · rw [List.getElem?_eq_none h1] at hu; cases hu
    rw [List.getElem?_eq_getElem hj] at hu
    injection hu with hu
    subst hu
    have hadd : (⟨g3, 0, none⟩ : Addr).add j = ⟨g3, j, none⟩ := by unfold Addr.add; split <;> simp_all
    rw [hadd]
    exact (World.cell?_of_block (a := ⟨g3, j, none⟩) (Below.heap_alloc _ _ _ hg)).trans (hc j hj)
  · intro v1 w1 ho1 hg1 _ _
    refine h v1 w1 (by simpa using ho1) ?_
    have hb := (Below.refl W0.heap.size W0).alloc (Nat.le_refl _) (.cells #[] 3)
    exact hb.grown hg1 (by simp) (fun k e => by injection e with e; subst e; exact Nat.le_refl _)
/-- append of nothing to such a row. -/
theorem app_none {ops : Array Oper} {rest : List Oper} {o : Oper} {a : Act} {Q : Exit → Act → World → Prop} {W0 : World} (base : Nat) (hgd : o.guard = none) (s x : Operand)
    (ho : o.op = .call { callee := .builtin .append, args := #[s, x], argTypes := #[26, 26] }) (gl : Nat)
    (hgl : gl = W0.heap.size) (hs : a.eval s = .slice (some ⟨gl, 0, none⟩) 0 0) (hx : a.eval x = .slice none 0 0) (hbase : base ≤ W0.heap.size)
    (h : (W0.alloc (.cells #[] 3)).ownsRow base 3 1 (.slice (some ⟨gl, 0, none⟩) 0 0) 0 [] → Below W0.heap.size W0 (W0.alloc (.cells #[] 3)) → wpList Tryd.prog ops Q rest (a.put o.dst (.slice (some ⟨gl, 0, none⟩) 0 0)) (W0.alloc (.cells #[] 3))) :
    wpList Tryd.prog ops Q (o :: rest) a (W0.alloc (.cells #[] 3)) := by
  obtain ⟨i0, hi, hz0, hz1, hz2⟩ := info_parts infoInt
  subst hgl
  have hown := World.ownsRow_lit (base := base) (e := 3) (size := 1) W0 #[] 0 hbase (by simp only [maxLen]; omega) (by simp)
  exact wpList_append_own_none hgd s x 26 ho base 3 i0 1 Tryd.underlying26 hi _ 0 _ hs hown hx (h hown ((Below.refl _ _).alloc (Nat.le_refl _) _))

end Go.Proofs.YtghhnnbbjlipcaaDoor.X

set_option linter.unusedVariables false
set_option linter.unusedSimpArgs false
namespace Go.Proofs.YtghhnnbbjlipcaaDoor.X
open Go.RowKit
theorem shape_cases {kind : Int} {n : Nat} (h : shapeB kind n = true) : (kind = 3 ∧ n = 1) ∨ (kind = 8 ∧ n = 1) ∨ (kind = 9 ∧ n = 1) ∨ (kind = 19 ∧ n = 1) ∨ (kind = 20 ∧ n = 1) ∨ (kind = 4 ∧ 2 ≤ n) ∨ (kind = 5 ∧ 2 ≤ n) ∨ (kind = 6 ∧ n = 2) ∨ (kind = 7 ∧ n = 2) ∨ (kind = 13 ∧ n ≤ 64) ∨
    ((kind == 3) = false ∧ (kind == 8) = false ∧ (kind == 9) = false ∧ (kind == 19) = false ∧ (kind == 20) = false ∧ (kind == 4) = false ∧ (kind == 5) = false ∧ (kind == 6) = false ∧ (kind == 7) = false ∧ (kind == 13) = false ∧ n = 0) := by
  unfold shapeB at h
  split at h
  · rename_i e; have := eq_of_beq h; omega
  split at h
  · rename_i e; have := of_decide_eq_true h; omega
  split at h
  · rename_i e; have := eq_of_beq h; omega
  split at h
  · rename_i e; have := of_decide_eq_true h; omega
  · have hn := eq_of_beq h
    iterate 10 right
    simp only [beq_eq_false_iff_ne]
    omega
theorem sub_ints {w : World} {base e m g c : Nat} {F kids : List Nat} (h : w.ownsRow base e 1 (.slice (some ⟨g, 0, none⟩) m c) m (F.map fun x => Value.int .i64 (x : Nat))) (hn : kids.length ≤ m) (hF : F.length = m) (hd : F.drop (m - kids.length) = kids) :
    IntsAt w (.slice (if c = m - kids.length then some ⟨g, 0, none⟩ else some ⟨g, m - kids.length, none⟩) (m - (m - kids.length)) (c - (m - kids.length))) (kids.map fun i : Nat => (i : Int)) := by
  rw [show m - (m - kids.length) = kids.length by omega]
  by_cases hk : kids = []
  · subst hk
    exact .inl ⟨rfl, _, _, rfl⟩
  · have hp := List.length_pos_iff.2 hk
    have hc : m ≤ c := by
      rcases h.2 with ⟨h1, _⟩ | ⟨g', c', cur, h1, _, _, h3, _⟩
      · cases h1
      · injection h1 with _ _ h1; omega
    have hg : g < w.heap.size := (h.lt g rfl).2
    rw [if_neg (by omega)]
    refine .inr ⟨g, m - kids.length, _, by rw [List.length_map], hg, fun k hk2 => ?_⟩
    rw [List.length_map] at hk2
    rw [h.cellAt _ (by omega), List.getElem?_map]
    have h1 : F[m - kids.length + k]? = kids[k]? := by
      have := congrArg (fun l => l[k]?) hd
      simpa only [List.getElem?_drop] using this
    rw [h1, List.getElem?_eq_getElem hk2]
    simp
theorem IntsAt.drewN {w : World} {v : Value} {xs : List Int} (h : IntsAt w v xs) (n : Nat) : IntsAt (w.drewN n) v xs := h.below (below_drewN (Below.refl _ _) n)
theorem same_true {va vb : Value} {xs : List Int} {w : World} (ha : IntsAt w va xs) (hb : IntsAt w vb xs) (hl : xs.length ≤ 1000000000000) : Calls Tryd.prog 18 #[va, vb] w fun e w' => e = .returned (.bool true) ∧ ∃ m, w' = w.drewN m :=
  (sameInts_q va vb xs xs w ha hb hl hl).mono fun e w' ⟨h1, h2⟩ => ⟨by rw [h1, decide_eq_true rfl], h2⟩
set_option maxHeartbeats 8000000 in
set_option maxRecDepth 100000 in
theorem form_any {ps : List PD} {r0 : Nat} (hr : runF [] 0 ps = some [r0]) (hl : ps.length ≤ 1000) {vp vo : Value} {kv : List Value} {offs : List Nat} {base : Nat} {w : World} (hT : TreeAt w base vp vo kv ps offs) :
    Calls Tryd.prog 10 #[.agg #[vp]] w fun e w' => e = .returned (.bool true) ∧ Below w.heap.size w w' := by
  have TR := Lib.hid hT
  obtain ⟨av, rfl⟩ := hT.parts.shp
  have HRun := Lib.hid hr
  clear hT hr
  go_enter Tryd.func10, Tryd.ntmps10
  go_wp2
  go_loopw [3, 4] (fun v i wr => ∃ (k : Nat) (F : List Nat), k ≤ ps.length ∧ i = .int .i64 k ∧ Hid (runF [] 0 (ps.take k) = some F) ∧ F.length ≤ k ∧ Hid (wr.ownsRow (w.heap.size + 1) 3 1 v F.length (F.map fun x => Value.int .i64 (x : Nat))) ∧ (F = [] → v = .slice none 0 0) ∧ Hid (Below (w.heap.size + 1) (w.alloc (.cells #[.slice av ps.length ps.length] 25)) wr)) (fun _ i _ => ps.length - (intOf i).toNat)
  case atStart => exact ⟨0, [], by omega, rfl, Lib.hid rfl, Nat.le_refl _, Lib.hid ⟨rfl, .inl ⟨rfl, rfl⟩⟩, fun _ => rfl, Lib.hid (Below.refl _ _)⟩
  case round =>
    obtain ⟨k, F, hk, rfl, HF, hFl, HO, hnil, HB⟩ := hrel
    have ct : wr.cell? ⟨w.heap.size, 0, none⟩ = some (.slice av ps.length ps.length) := cell_keep HB.out (by omega) ((Lib.cell_of_heap (Go.heap_alloc_new w _) 0).trans rfl)
    have hwr : w.heap.size < wr.heap.size := by have := HB.out.size; simp at this; omega
    by_cases hlt : k < ps.length
    · have hI : (k : Int) < (ps.length : Int) := by omega
      obtain ⟨hfit, hnext⟩ := run_step HRun.out HF.out hlt
      obtain ⟨g, a, c, hg1, hg2, hkv, d0, d1, d2, d3, hIn⟩ := TR.out.part hlt
      injection hg1 with hg1
      subst hg1
      have hBw : Below w.heap.size w wr := ((Below.refl _ w).alloc (Nat.le_refl _) _).trans (HB.out.mono (by omega))
      have d0 := cell_keep hBw hg2 d0
      have d1 := cell_keep hBw hg2 d1
      have d2 := cell_keep hBw hg2 d2
      have d3 := cell_keep hBw hg2 d3
      have KI := Lib.hid (hIn.below hBw)
      have HN := Lib.hid hnext
      obtain ⟨f1, f2, f3, f4⟩ := hfit
      generalize ps[k] = p at d0 d1 d2 d3 KI HN f1 f2 f3 f4
      obtain ⟨kind, text, num, kids⟩ := p
      simp only at d0 d1 d2 d3 KI HN f1 f2 f3 f4
      have hgr : g < wr.heap.size := Nat.lt_of_lt_of_le hg2 hBw.size
      have F2 := Lib.hid f2
      have F4 := Lib.hid f4
      have hts : (⟨text.toArray⟩ : ByteArray).size ≤ 127 := by rw [show (⟨text.toArray⟩ : ByteArray).size = text.length from by simp [ByteArray.size]]; exact f3
      have HBw := Lib.hid hBw
      have htI : ¬ (127 : Int) < (text.length : Int) := by omega
      have htI2 : ¬ (127 : Int) < ((⟨text.toArray⟩ : ByteArray).size : Int) := by omega
      clear hIn hkv hnext f2 f4 hBw
      by_cases hF0 : F = []
      · have hn0 : kids.length = 0 := by rw [hF0] at f1; simpa using f1
        obtain rfl := hnil hF0
        have hkn0 : kids = [] := List.eq_nil_of_length_eq_zero hn0
        have hkd0 : ¬ (0 : Int) < (kids.length : Int) := by omega
        have hsub : Hid (∀ W a2 c2, IntsAt W (.slice a2 0 c2) (kids.map fun i : Nat => (i : Int))) := Lib.hid (fun W a2 c2 => .inl ⟨by rw [hkn0]; rfl, a2, c2, rfl⟩)
        have hkl : (kids.map fun i : Nat => (i : Int)).length ≤ 1000000000000 := by rw [List.length_map]; omega
        have HN0 : Hid (runF [] 0 (ps.take (k + 1)) = some [k]) := Lib.hid (by have := HN.out; rw [hF0] at this; simpa using this)
        clear hkn0 hnil HF HO HN hFl f1 F2 hF0
        go_wp2
        go_quiet ((go_at_call 18; exact Calls.quiet_of (same_true (hsub.out _ a c) (hsub.out _ none 0) hkl)))
        rcases shape_cases F4.out with ⟨_, hn⟩ | ⟨_, hn⟩ | ⟨_, hn⟩ | ⟨_, hn⟩ | ⟨_, hn⟩ | ⟨_, hn⟩ | ⟨_, hn⟩ | ⟨_, hn⟩ | ⟨_, hn⟩ | ⟨rfl, hn⟩ | ⟨q1, q2, q3, q4, q5, q6, q7, q8, q9, q10, hn⟩
        · omega
        · omega
        · omega
        · omega
        · omega
        · omega
        · omega
        · omega
        · omega
        · clear hn
          go_wp2_with (first
            | (at_builtin; go_loud (refine app_int (w.heap.size + 1) rfl (.tmp 79) (.tmp 81) rfl _ _ _ (.int .i64 (k : Nat)) _ rfl rfl rfl (by simp [Act.eval]) O1.out (by simp; omega) (by omega) ?_; intro v2 w2 ho2 hg2 hat2; have O2 := Lib.hid ho2; have B2 := Lib.hid ((B1.out.alloc (by simp; omega) _).grown hg2 (by simp; omega) (fun k e => (O1.out.lt k e).1)); clear ho2 hg2 hat2))
            | (at_builtin; go_loud (refine app_none (w.heap.size + 1) rfl (.tmp 71) (.tmp 77) rfl _ (by simp) rfl rfl (by simp; omega) ?_; intro ho1 hb1; have O1 := Lib.hid ho1; have B1 := Lib.hid ((below_drewN (HB.out.alloc (by omega) _) _).trans (hb1.mono (by simp; omega))); clear ho1 hb1)))
          go_roundw
          case rel => exact ⟨k + 1, [k], by omega, by go_num, HN0, by simp, O2, fun e => absurd e (by simp), B2⟩
          case measure => simp [intOf]; omega
        · clear hn
          go_wp2_with (first
            | (at_builtin; go_loud (refine app_int (w.heap.size + 1) rfl (.tmp 79) (.tmp 81) rfl _ _ _ (.int .i64 (k : Nat)) _ rfl rfl rfl (by simp [Act.eval]) O1.out (by simp; omega) (by omega) ?_; intro v2 w2 ho2 hg2 hat2; have O2 := Lib.hid ho2; have B2 := Lib.hid ((B1.out.alloc (by simp; omega) _).grown hg2 (by simp; omega) (fun k e => (O1.out.lt k e).1)); clear ho2 hg2 hat2))
            | (at_builtin; go_loud (refine app_none (w.heap.size + 1) rfl (.tmp 71) (.tmp 77) rfl _ (by simp) rfl rfl (by simp; omega) ?_; intro ho1 hb1; have O1 := Lib.hid ho1; have B1 := Lib.hid ((below_drewN (HB.out.alloc (by omega) _) _).trans (hb1.mono (by simp; omega))); clear ho1 hb1)))
          go_roundw
          case rel => exact ⟨k + 1, [k], by omega, by go_num, HN0, by simp, O2, fun e => absurd e (by simp), B2⟩
          case measure => simp [intOf]; omega
      · obtain ⟨fl, hfl⟩ : ∃ fl, F.length = fl + 1 := ⟨F.length - 1, by have := List.length_pos_iff.2 hF0; omega⟩
        have hrow := HO.out
        rw [hfl] at hrow
        obtain ⟨g3, c3, rfl⟩ := own_some hrow
        clear hrow
        rw [hfl] at f1
        have F2 : Hid (F.drop (fl + 1 - kids.length) = kids) := Lib.hid (by have := F2.out; rw [hfl] at this; exact this)
        have hcap : fl + 1 ≤ c3 := by
          rcases HO.out.2 with ⟨h1, _⟩ | ⟨g', c', cur, h1, _, _, h3, _⟩
          · cases h1
          · rw [hfl] at h1; injection h1 with _ _ h1; omega
        have hcapI : ¬ ((c3 : Int) < (fl : Int) + 1 - (kids.length : Int)) := by omega
        have hcap0 : ¬ ((fl : Int) + 1 - (kids.length : Int) < 0) := by omega
        have hcn : kids.length = 0 ∨ ¬ c3 = fl + 1 - kids.length := by omega
        have hkn : ¬ ((fl : Int) + 1 < (kids.length : Int)) := by omega
        have hkd : decide ((fl : Int) + 1 < (kids.length : Int)) = false := decide_eq_false hkn
        go_wp2
        have hsub := Lib.hid (sub_ints (w := wr) (by have := HO.out; rw [hfl] at this; exact this) f1 hfl F2.out)
        have hkl : (kids.map fun i : Nat => (i : Int)).length ≤ 1000000000000 := by rw [List.length_map]; omega
        have hg3 : g3 < wr.heap.size := (HO.out.lt g3 rfl).2
        have HCF : Hid (∀ j (h : j < (F.take (fl + 1 - kids.length)).length), wr.cell? ⟨g3, j, none⟩ = some (.int .i64 ((F.take (fl + 1 - kids.length))[j] : Nat))) := Lib.hid (fun j hj => by
          have hj2 : j < F.length := by rw [List.length_take] at hj; omega
          have h := HO.out
          rw [hfl] at h
          rw [h.cellAt j (by omega), List.getElem?_map, List.getElem?_eq_getElem hj2, List.getElem_take]
          rfl)
        go_quiet ((go_at_call 18; exact Calls.quiet_of (same_true ((KI.out.below ((Below.refl _ wr).alloc (Nat.le_refl _) _)).drewN _) ((hsub.out.below ((Below.refl _ wr).alloc (Nat.le_refl _) _)).drewN _) hkl)))
        rcases shape_cases F4.out with ⟨rfl, hn⟩ | ⟨rfl, hn⟩ | ⟨rfl, hn⟩ | ⟨rfl, hn⟩ | ⟨rfl, hn⟩ | ⟨rfl, hn⟩ | ⟨rfl, hn⟩ | ⟨rfl, hn⟩ | ⟨rfl, hn⟩ | ⟨rfl, hn⟩ | ⟨q1, q2, q3, q4, q5, q6, q7, q8, q9, q10, hn⟩
        · have hcne : ¬ c3 = fl + 1 - kids.length := by omega
          go_wp2_with (first
            | (at_builtin; refine app_int (w.heap.size + 1) rfl (.tmp 79) (.tmp 81) rfl _ _ _ (.int .i64 (k : Nat)) _ rfl rfl rfl (by simp [Act.eval]) O1.out HZ.out (by simp; omega) ?_; intro v2 w2 ho2 hg2 hat2; have O2 := Lib.hid ho2; have B2 := Lib.hid ((B1.out.alloc HZ.out _).grown hg2 (by have := HZ.out; simp; omega) (fun k e => (O1.out.lt k e).1)); clear ho2 hg2 hat2)
            | (at_builtin; go_loud (refine app_copy (w.heap.size + 1) rfl (.tmp 71) (.tmp 77) rfl _ g3 _ _ (F.take (fl + 1 - kids.length)) (by simp) rfl rfl (by rw [List.length_take]; omega) (by simp; omega) (fun j hj => cell_keep (below_drewN ((Below.refl _ wr).alloc (Nat.le_refl _) _) _) hg3 (HCF.out j hj)) (by simp; omega) (by rw [List.length_take]; omega) ?_; intro v1 w1 ho1 hb1; have O1 := Lib.hid ho1; have HZ : Hid (w.heap.size + 1 ≤ w1.heap.size) := Lib.hid (by have := hb1.size; simp at this; omega); have B1 := Lib.hid ((below_drewN (HB.out.alloc (by omega) _) _).trans (hb1.mono (by simp; omega))); clear ho1 hb1)))
          go_roundw
          case rel => exact ⟨k + 1, F.take (fl + 1 - kids.length) ++ [k], by omega, by go_num, Lib.hid (by have := HN.out; rw [hfl] at this; exact this), by rw [List.length_append, List.length_take]; simp only [List.length_cons, List.length_nil]; omega, Lib.hid (by rw [List.length_append, List.map_append]; exact O2.out), fun e => absurd e (by simp), B2⟩
          case measure => simp [intOf]; omega
        · have hcne : ¬ c3 = fl + 1 - kids.length := by omega
          go_wp2_with (first
            | (at_builtin; refine app_int (w.heap.size + 1) rfl (.tmp 79) (.tmp 81) rfl _ _ _ (.int .i64 (k : Nat)) _ rfl rfl rfl (by simp [Act.eval]) O1.out HZ.out (by simp; omega) ?_; intro v2 w2 ho2 hg2 hat2; have O2 := Lib.hid ho2; have B2 := Lib.hid ((B1.out.alloc HZ.out _).grown hg2 (by have := HZ.out; simp; omega) (fun k e => (O1.out.lt k e).1)); clear ho2 hg2 hat2)
            | (at_builtin; go_loud (refine app_copy (w.heap.size + 1) rfl (.tmp 71) (.tmp 77) rfl _ g3 _ _ (F.take (fl + 1 - kids.length)) (by simp) rfl rfl (by rw [List.length_take]; omega) (by simp; omega) (fun j hj => cell_keep (below_drewN ((Below.refl _ wr).alloc (Nat.le_refl _) _) _) hg3 (HCF.out j hj)) (by simp; omega) (by rw [List.length_take]; omega) ?_; intro v1 w1 ho1 hb1; have O1 := Lib.hid ho1; have HZ : Hid (w.heap.size + 1 ≤ w1.heap.size) := Lib.hid (by have := hb1.size; simp at this; omega); have B1 := Lib.hid ((below_drewN (HB.out.alloc (by omega) _) _).trans (hb1.mono (by simp; omega))); clear ho1 hb1)))
          go_roundw
          case rel => exact ⟨k + 1, F.take (fl + 1 - kids.length) ++ [k], by omega, by go_num, Lib.hid (by have := HN.out; rw [hfl] at this; exact this), by rw [List.length_append, List.length_take]; simp only [List.length_cons, List.length_nil]; omega, Lib.hid (by rw [List.length_append, List.map_append]; exact O2.out), fun e => absurd e (by simp), B2⟩
          case measure => simp [intOf]; omega
        · have hcne : ¬ c3 = fl + 1 - kids.length := by omega
          go_wp2_with (first
            | (at_builtin; refine app_int (w.heap.size + 1) rfl (.tmp 79) (.tmp 81) rfl _ _ _ (.int .i64 (k : Nat)) _ rfl rfl rfl (by simp [Act.eval]) O1.out HZ.out (by simp; omega) ?_; intro v2 w2 ho2 hg2 hat2; have O2 := Lib.hid ho2; have B2 := Lib.hid ((B1.out.alloc HZ.out _).grown hg2 (by have := HZ.out; simp; omega) (fun k e => (O1.out.lt k e).1)); clear ho2 hg2 hat2)
            | (at_builtin; go_loud (refine app_copy (w.heap.size + 1) rfl (.tmp 71) (.tmp 77) rfl _ g3 _ _ (F.take (fl + 1 - kids.length)) (by simp) rfl rfl (by rw [List.length_take]; omega) (by simp; omega) (fun j hj => cell_keep (below_drewN ((Below.refl _ wr).alloc (Nat.le_refl _) _) _) hg3 (HCF.out j hj)) (by simp; omega) (by rw [List.length_take]; omega) ?_; intro v1 w1 ho1 hb1; have O1 := Lib.hid ho1; have HZ : Hid (w.heap.size + 1 ≤ w1.heap.size) := Lib.hid (by have := hb1.size; simp at this; omega); have B1 := Lib.hid ((below_drewN (HB.out.alloc (by omega) _) _).trans (hb1.mono (by simp; omega))); clear ho1 hb1)))
          go_roundw
          case rel => exact ⟨k + 1, F.take (fl + 1 - kids.length) ++ [k], by omega, by go_num, Lib.hid (by have := HN.out; rw [hfl] at this; exact this), by rw [List.length_append, List.length_take]; simp only [List.length_cons, List.length_nil]; omega, Lib.hid (by rw [List.length_append, List.map_append]; exact O2.out), fun e => absurd e (by simp), B2⟩
          case measure => simp [intOf]; omega
        · have hcne : ¬ c3 = fl + 1 - kids.length := by omega
          go_wp2_with (first
            | (at_builtin; refine app_int (w.heap.size + 1) rfl (.tmp 79) (.tmp 81) rfl _ _ _ (.int .i64 (k : Nat)) _ rfl rfl rfl (by simp [Act.eval]) O1.out HZ.out (by simp; omega) ?_; intro v2 w2 ho2 hg2 hat2; have O2 := Lib.hid ho2; have B2 := Lib.hid ((B1.out.alloc HZ.out _).grown hg2 (by have := HZ.out; simp; omega) (fun k e => (O1.out.lt k e).1)); clear ho2 hg2 hat2)
            | (at_builtin; go_loud (refine app_copy (w.heap.size + 1) rfl (.tmp 71) (.tmp 77) rfl _ g3 _ _ (F.take (fl + 1 - kids.length)) (by simp) rfl rfl (by rw [List.length_take]; omega) (by simp; omega) (fun j hj => cell_keep (below_drewN ((Below.refl _ wr).alloc (Nat.le_refl _) _) _) hg3 (HCF.out j hj)) (by simp; omega) (by rw [List.length_take]; omega) ?_; intro v1 w1 ho1 hb1; have O1 := Lib.hid ho1; have HZ : Hid (w.heap.size + 1 ≤ w1.heap.size) := Lib.hid (by have := hb1.size; simp at this; omega); have B1 := Lib.hid ((below_drewN (HB.out.alloc (by omega) _) _).trans (hb1.mono (by simp; omega))); clear ho1 hb1)))
          go_roundw
          case rel => exact ⟨k + 1, F.take (fl + 1 - kids.length) ++ [k], by omega, by go_num, Lib.hid (by have := HN.out; rw [hfl] at this; exact this), by rw [List.length_append, List.length_take]; simp only [List.length_cons, List.length_nil]; omega, Lib.hid (by rw [List.length_append, List.map_append]; exact O2.out), fun e => absurd e (by simp), B2⟩
          case measure => simp [intOf]; omega
        · have hcne : ¬ c3 = fl + 1 - kids.length := by omega
          go_wp2_with (first
            | (at_builtin; refine app_int (w.heap.size + 1) rfl (.tmp 79) (.tmp 81) rfl _ _ _ (.int .i64 (k : Nat)) _ rfl rfl rfl (by simp [Act.eval]) O1.out HZ.out (by simp; omega) ?_; intro v2 w2 ho2 hg2 hat2; have O2 := Lib.hid ho2; have B2 := Lib.hid ((B1.out.alloc HZ.out _).grown hg2 (by have := HZ.out; simp; omega) (fun k e => (O1.out.lt k e).1)); clear ho2 hg2 hat2)
            | (at_builtin; go_loud (refine app_copy (w.heap.size + 1) rfl (.tmp 71) (.tmp 77) rfl _ g3 _ _ (F.take (fl + 1 - kids.length)) (by simp) rfl rfl (by rw [List.length_take]; omega) (by simp; omega) (fun j hj => cell_keep (below_drewN ((Below.refl _ wr).alloc (Nat.le_refl _) _) _) hg3 (HCF.out j hj)) (by simp; omega) (by rw [List.length_take]; omega) ?_; intro v1 w1 ho1 hb1; have O1 := Lib.hid ho1; have HZ : Hid (w.heap.size + 1 ≤ w1.heap.size) := Lib.hid (by have := hb1.size; simp at this; omega); have B1 := Lib.hid ((below_drewN (HB.out.alloc (by omega) _) _).trans (hb1.mono (by simp; omega))); clear ho1 hb1)))
          go_roundw
          case rel => exact ⟨k + 1, F.take (fl + 1 - kids.length) ++ [k], by omega, by go_num, Lib.hid (by have := HN.out; rw [hfl] at this; exact this), by rw [List.length_append, List.length_take]; simp only [List.length_cons, List.length_nil]; omega, Lib.hid (by rw [List.length_append, List.map_append]; exact O2.out), fun e => absurd e (by simp), B2⟩
          case measure => simp [intOf]; omega
        · have hcne : ¬ c3 = fl + 1 - kids.length := by omega
          have hnI : ¬ (kids.length : Int) < 2 := by omega
          go_wp2_with (first
            | (at_builtin; refine app_int (w.heap.size + 1) rfl (.tmp 79) (.tmp 81) rfl _ _ _ (.int .i64 (k : Nat)) _ rfl rfl rfl (by simp [Act.eval]) O1.out HZ.out (by simp; omega) ?_; intro v2 w2 ho2 hg2 hat2; have O2 := Lib.hid ho2; have B2 := Lib.hid ((B1.out.alloc HZ.out _).grown hg2 (by have := HZ.out; simp; omega) (fun k e => (O1.out.lt k e).1)); clear ho2 hg2 hat2)
            | (at_builtin; go_loud (refine app_copy (w.heap.size + 1) rfl (.tmp 71) (.tmp 77) rfl _ g3 _ _ (F.take (fl + 1 - kids.length)) (by simp) rfl rfl (by rw [List.length_take]; omega) (by simp; omega) (fun j hj => cell_keep (below_drewN ((Below.refl _ wr).alloc (Nat.le_refl _) _) _) hg3 (HCF.out j hj)) (by simp; omega) (by rw [List.length_take]; omega) ?_; intro v1 w1 ho1 hb1; have O1 := Lib.hid ho1; have HZ : Hid (w.heap.size + 1 ≤ w1.heap.size) := Lib.hid (by have := hb1.size; simp at this; omega); have B1 := Lib.hid ((below_drewN (HB.out.alloc (by omega) _) _).trans (hb1.mono (by simp; omega))); clear ho1 hb1)))
          go_roundw
          case rel => exact ⟨k + 1, F.take (fl + 1 - kids.length) ++ [k], by omega, by go_num, Lib.hid (by have := HN.out; rw [hfl] at this; exact this), by rw [List.length_append, List.length_take]; simp only [List.length_cons, List.length_nil]; omega, Lib.hid (by rw [List.length_append, List.map_append]; exact O2.out), fun e => absurd e (by simp), B2⟩
          case measure => simp [intOf]; omega
        · have hcne : ¬ c3 = fl + 1 - kids.length := by omega
          have hnI : ¬ (kids.length : Int) < 2 := by omega
          go_wp2_with (first
            | (at_builtin; refine app_int (w.heap.size + 1) rfl (.tmp 79) (.tmp 81) rfl _ _ _ (.int .i64 (k : Nat)) _ rfl rfl rfl (by simp [Act.eval]) O1.out HZ.out (by simp; omega) ?_; intro v2 w2 ho2 hg2 hat2; have O2 := Lib.hid ho2; have B2 := Lib.hid ((B1.out.alloc HZ.out _).grown hg2 (by have := HZ.out; simp; omega) (fun k e => (O1.out.lt k e).1)); clear ho2 hg2 hat2)
            | (at_builtin; go_loud (refine app_copy (w.heap.size + 1) rfl (.tmp 71) (.tmp 77) rfl _ g3 _ _ (F.take (fl + 1 - kids.length)) (by simp) rfl rfl (by rw [List.length_take]; omega) (by simp; omega) (fun j hj => cell_keep (below_drewN ((Below.refl _ wr).alloc (Nat.le_refl _) _) _) hg3 (HCF.out j hj)) (by simp; omega) (by rw [List.length_take]; omega) ?_; intro v1 w1 ho1 hb1; have O1 := Lib.hid ho1; have HZ : Hid (w.heap.size + 1 ≤ w1.heap.size) := Lib.hid (by have := hb1.size; simp at this; omega); have B1 := Lib.hid ((below_drewN (HB.out.alloc (by omega) _) _).trans (hb1.mono (by simp; omega))); clear ho1 hb1)))
          go_roundw
          case rel => exact ⟨k + 1, F.take (fl + 1 - kids.length) ++ [k], by omega, by go_num, Lib.hid (by have := HN.out; rw [hfl] at this; exact this), by rw [List.length_append, List.length_take]; simp only [List.length_cons, List.length_nil]; omega, Lib.hid (by rw [List.length_append, List.map_append]; exact O2.out), fun e => absurd e (by simp), B2⟩
          case measure => simp [intOf]; omega
        · have hcne : ¬ c3 = fl + 1 - kids.length := by omega
          go_wp2_with (first
            | (at_builtin; refine app_int (w.heap.size + 1) rfl (.tmp 79) (.tmp 81) rfl _ _ _ (.int .i64 (k : Nat)) _ rfl rfl rfl (by simp [Act.eval]) O1.out HZ.out (by simp; omega) ?_; intro v2 w2 ho2 hg2 hat2; have O2 := Lib.hid ho2; have B2 := Lib.hid ((B1.out.alloc HZ.out _).grown hg2 (by have := HZ.out; simp; omega) (fun k e => (O1.out.lt k e).1)); clear ho2 hg2 hat2)
            | (at_builtin; go_loud (refine app_copy (w.heap.size + 1) rfl (.tmp 71) (.tmp 77) rfl _ g3 _ _ (F.take (fl + 1 - kids.length)) (by simp) rfl rfl (by rw [List.length_take]; omega) (by simp; omega) (fun j hj => cell_keep (below_drewN ((Below.refl _ wr).alloc (Nat.le_refl _) _) _) hg3 (HCF.out j hj)) (by simp; omega) (by rw [List.length_take]; omega) ?_; intro v1 w1 ho1 hb1; have O1 := Lib.hid ho1; have HZ : Hid (w.heap.size + 1 ≤ w1.heap.size) := Lib.hid (by have := hb1.size; simp at this; omega); have B1 := Lib.hid ((below_drewN (HB.out.alloc (by omega) _) _).trans (hb1.mono (by simp; omega))); clear ho1 hb1)))
          go_roundw
          case rel => exact ⟨k + 1, F.take (fl + 1 - kids.length) ++ [k], by omega, by go_num, Lib.hid (by have := HN.out; rw [hfl] at this; exact this), by rw [List.length_append, List.length_take]; simp only [List.length_cons, List.length_nil]; omega, Lib.hid (by rw [List.length_append, List.map_append]; exact O2.out), fun e => absurd e (by simp), B2⟩
          case measure => simp [intOf]; omega
        · have hcne : ¬ c3 = fl + 1 - kids.length := by omega
          go_wp2_with (first
            | (at_builtin; refine app_int (w.heap.size + 1) rfl (.tmp 79) (.tmp 81) rfl _ _ _ (.int .i64 (k : Nat)) _ rfl rfl rfl (by simp [Act.eval]) O1.out HZ.out (by simp; omega) ?_; intro v2 w2 ho2 hg2 hat2; have O2 := Lib.hid ho2; have B2 := Lib.hid ((B1.out.alloc HZ.out _).grown hg2 (by have := HZ.out; simp; omega) (fun k e => (O1.out.lt k e).1)); clear ho2 hg2 hat2)
            | (at_builtin; go_loud (refine app_copy (w.heap.size + 1) rfl (.tmp 71) (.tmp 77) rfl _ g3 _ _ (F.take (fl + 1 - kids.length)) (by simp) rfl rfl (by rw [List.length_take]; omega) (by simp; omega) (fun j hj => cell_keep (below_drewN ((Below.refl _ wr).alloc (Nat.le_refl _) _) _) hg3 (HCF.out j hj)) (by simp; omega) (by rw [List.length_take]; omega) ?_; intro v1 w1 ho1 hb1; have O1 := Lib.hid ho1; have HZ : Hid (w.heap.size + 1 ≤ w1.heap.size) := Lib.hid (by have := hb1.size; simp at this; omega); have B1 := Lib.hid ((below_drewN (HB.out.alloc (by omega) _) _).trans (hb1.mono (by simp; omega))); clear ho1 hb1)))
          go_roundw
          case rel => exact ⟨k + 1, F.take (fl + 1 - kids.length) ++ [k], by omega, by go_num, Lib.hid (by have := HN.out; rw [hfl] at this; exact this), by rw [List.length_append, List.length_take]; simp only [List.length_cons, List.length_nil]; omega, Lib.hid (by rw [List.length_append, List.map_append]; exact O2.out), fun e => absurd e (by simp), B2⟩
          case measure => simp [intOf]; omega
        · have hnI : ¬ (64 : Int) < (kids.length : Int) := by omega
          by_cases hcne : c3 = fl + 1 - kids.length
          · have hn0 : kids.length = 0 := by omega
            go_wp2_with (first
              | (at_builtin; refine app_int (w.heap.size + 1) rfl (.tmp 79) (.tmp 81) rfl _ _ _ (.int .i64 (k : Nat)) _ rfl rfl rfl (by simp [Act.eval]) O1.out HZ.out (by simp; omega) ?_; intro v2 w2 ho2 hg2 hat2; have O2 := Lib.hid ho2; have B2 := Lib.hid ((B1.out.alloc HZ.out _).grown hg2 (by have := HZ.out; simp; omega) (fun k e => (O1.out.lt k e).1)); clear ho2 hg2 hat2)
              | (at_builtin; go_loud (refine app_copy (w.heap.size + 1) rfl (.tmp 71) (.tmp 77) rfl _ g3 _ _ (F.take (fl + 1 - kids.length)) (by simp) rfl rfl (by rw [List.length_take]; omega) (by simp; omega) (fun j hj => cell_keep (below_drewN ((Below.refl _ wr).alloc (Nat.le_refl _) _) _) hg3 (HCF.out j hj)) (by simp; omega) (by rw [List.length_take]; omega) ?_; intro v1 w1 ho1 hb1; have O1 := Lib.hid ho1; have HZ : Hid (w.heap.size + 1 ≤ w1.heap.size) := Lib.hid (by have := hb1.size; simp at this; omega); have B1 := Lib.hid ((below_drewN (HB.out.alloc (by omega) _) _).trans (hb1.mono (by simp; omega))); clear ho1 hb1)))
            go_roundw
            case rel => exact ⟨k + 1, F.take (fl + 1 - kids.length) ++ [k], by omega, by go_num, Lib.hid (by have := HN.out; rw [hfl] at this; exact this), by rw [List.length_append, List.length_take]; simp only [List.length_cons, List.length_nil]; omega, Lib.hid (by rw [List.length_append, List.map_append]; exact O2.out), fun e => absurd e (by simp), B2⟩
            case measure => simp [intOf]; omega
          · skip
            go_wp2_with (first
              | (at_builtin; refine app_int (w.heap.size + 1) rfl (.tmp 79) (.tmp 81) rfl _ _ _ (.int .i64 (k : Nat)) _ rfl rfl rfl (by simp [Act.eval]) O1.out HZ.out (by simp; omega) ?_; intro v2 w2 ho2 hg2 hat2; have O2 := Lib.hid ho2; have B2 := Lib.hid ((B1.out.alloc HZ.out _).grown hg2 (by have := HZ.out; simp; omega) (fun k e => (O1.out.lt k e).1)); clear ho2 hg2 hat2)
              | (at_builtin; go_loud (refine app_copy (w.heap.size + 1) rfl (.tmp 71) (.tmp 77) rfl _ g3 _ _ (F.take (fl + 1 - kids.length)) (by simp) rfl rfl (by rw [List.length_take]; omega) (by simp; omega) (fun j hj => cell_keep (below_drewN ((Below.refl _ wr).alloc (Nat.le_refl _) _) _) hg3 (HCF.out j hj)) (by simp; omega) (by rw [List.length_take]; omega) ?_; intro v1 w1 ho1 hb1; have O1 := Lib.hid ho1; have HZ : Hid (w.heap.size + 1 ≤ w1.heap.size) := Lib.hid (by have := hb1.size; simp at this; omega); have B1 := Lib.hid ((below_drewN (HB.out.alloc (by omega) _) _).trans (hb1.mono (by simp; omega))); clear ho1 hb1)))
            go_roundw
            case rel => exact ⟨k + 1, F.take (fl + 1 - kids.length) ++ [k], by omega, by go_num, Lib.hid (by have := HN.out; rw [hfl] at this; exact this), by rw [List.length_append, List.length_take]; simp only [List.length_cons, List.length_nil]; omega, Lib.hid (by rw [List.length_append, List.map_append]; exact O2.out), fun e => absurd e (by simp), B2⟩
            case measure => simp [intOf]; omega
        · by_cases hcne : c3 = fl + 1 - kids.length
          · skip
            go_wp2_with (first
              | (at_builtin; refine app_int (w.heap.size + 1) rfl (.tmp 79) (.tmp 81) rfl _ _ _ (.int .i64 (k : Nat)) _ rfl rfl rfl (by simp [Act.eval]) O1.out HZ.out (by simp; omega) ?_; intro v2 w2 ho2 hg2 hat2; have O2 := Lib.hid ho2; have B2 := Lib.hid ((B1.out.alloc HZ.out _).grown hg2 (by have := HZ.out; simp; omega) (fun k e => (O1.out.lt k e).1)); clear ho2 hg2 hat2)
              | (at_builtin; go_loud (refine app_copy (w.heap.size + 1) rfl (.tmp 71) (.tmp 77) rfl _ g3 _ _ (F.take (fl + 1 - kids.length)) (by simp) rfl rfl (by rw [List.length_take]; omega) (by simp; omega) (fun j hj => cell_keep (below_drewN ((Below.refl _ wr).alloc (Nat.le_refl _) _) _) hg3 (HCF.out j hj)) (by simp; omega) (by rw [List.length_take]; omega) ?_; intro v1 w1 ho1 hb1; have O1 := Lib.hid ho1; have HZ : Hid (w.heap.size + 1 ≤ w1.heap.size) := Lib.hid (by have := hb1.size; simp at this; omega); have B1 := Lib.hid ((below_drewN (HB.out.alloc (by omega) _) _).trans (hb1.mono (by simp; omega))); clear ho1 hb1)))
            go_roundw
            case rel => exact ⟨k + 1, F.take (fl + 1 - kids.length) ++ [k], by omega, by go_num, Lib.hid (by have := HN.out; rw [hfl] at this; exact this), by rw [List.length_append, List.length_take]; simp only [List.length_cons, List.length_nil]; omega, Lib.hid (by rw [List.length_append, List.map_append]; exact O2.out), fun e => absurd e (by simp), B2⟩
            case measure => simp [intOf]; omega
          · skip
            go_wp2_with (first
              | (at_builtin; refine app_int (w.heap.size + 1) rfl (.tmp 79) (.tmp 81) rfl _ _ _ (.int .i64 (k : Nat)) _ rfl rfl rfl (by simp [Act.eval]) O1.out HZ.out (by simp; omega) ?_; intro v2 w2 ho2 hg2 hat2; have O2 := Lib.hid ho2; have B2 := Lib.hid ((B1.out.alloc HZ.out _).grown hg2 (by have := HZ.out; simp; omega) (fun k e => (O1.out.lt k e).1)); clear ho2 hg2 hat2)
              | (at_builtin; go_loud (refine app_copy (w.heap.size + 1) rfl (.tmp 71) (.tmp 77) rfl _ g3 _ _ (F.take (fl + 1 - kids.length)) (by simp) rfl rfl (by rw [List.length_take]; omega) (by simp; omega) (fun j hj => cell_keep (below_drewN ((Below.refl _ wr).alloc (Nat.le_refl _) _) _) hg3 (HCF.out j hj)) (by simp; omega) (by rw [List.length_take]; omega) ?_; intro v1 w1 ho1 hb1; have O1 := Lib.hid ho1; have HZ : Hid (w.heap.size + 1 ≤ w1.heap.size) := Lib.hid (by have := hb1.size; simp at this; omega); have B1 := Lib.hid ((below_drewN (HB.out.alloc (by omega) _) _).trans (hb1.mono (by simp; omega))); clear ho1 hb1)))
            go_roundw
            case rel => exact ⟨k + 1, F.take (fl + 1 - kids.length) ++ [k], by omega, by go_num, Lib.hid (by have := HN.out; rw [hfl] at this; exact this), by rw [List.length_append, List.length_take]; simp only [List.length_cons, List.length_nil]; omega, Lib.hid (by rw [List.length_append, List.map_append]; exact O2.out), fun e => absurd e (by simp), B2⟩
            case measure => simp [intOf]; omega
    · have hke : k = ps.length := by omega
      have hI : ¬ (k : Int) < (ps.length : Int) := by omega
      have hF1 : F = [r0] := by
        have h1 := HF.out
        rw [hke, List.take_length, HRun.out] at h1
        injection h1 with h1
        exact h1.symm
      have hFl1 : F.length = 1 := by rw [hF1]; rfl
      have hrow := HO.out
      rw [hFl1] at hrow
      obtain ⟨g3, c3, rfl⟩ := own_some hrow
      clear hrow
      have hl1 : (ps.length : Int) ≤ 1000 := by omega
      have HBw := Lib.hid (((Below.refl _ w).alloc (Nat.le_refl _) (.cells #[.slice av ps.length ps.length] 25)).trans (HB.out.mono (by omega)))
      go_wp2
      go_ret
      exact ⟨rfl, HBw.out⟩

end Go.Proofs.YtghhnnbbjlipcaaDoor.X

