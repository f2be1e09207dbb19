/-
  Rows of parts in memory, each with its row of kids: how they stay, how they grow; the walk of Same over two such rows.
  The walk of shifted.
  The walks of limited and reads.
  append of a row of parts to a row of parts of the call's own.
-/
import Derived.Test.YtghhnnbbjlipcaaDoorParSm
import Derived.OwnWalk
import Derived.Test.YtghhnnbbjlipcaaDoorPlJoins
import Derived.Test.YtghhnnbbjlipcaaDoorLawBlanks
import Derived.Deep.RegionLaw
import Derived.Deep.CutRange
set_option linter.unusedVariables false
set_option linter.unusedSimpArgs false
namespace Go.Proofs.YtghhnnbbjlipcaaDoor.X
open Go.RowKit
/-- A row of parts of the call's own; the kids' rows. -/
structure PRow (w : World) (base : Nat) (v : Value) (ps : List PD) (kv : List Value) : Prop where
  row : w.ownsRow base 41 4 v ps.length (partRow ps kv)
  klen : kv.length = ps.length
  kids : ∀ i (h : i < ps.length), kidRow w 0 (kv.getD i undef) ps[i].kids
/-- Parts lie there. -/
def PIn (w : World) (v : Value) (ps : List PD) : Prop := ∃ av cap, v = .slice av ps.length cap ∧ ∀ k (hk : k < ps.length), ∃ g a c, av = some ⟨g, 0, none⟩ ∧ g < w.heap.size ∧ w.cell? ⟨g, k * 4, none⟩ = some (.int .i64 ps[k].kind) ∧ w.cell? ⟨g, k * 4 + 1, none⟩ = some (.string ⟨ps[k].text.toArray⟩) ∧
  w.cell? ⟨g, k * 4 + 2, none⟩ = some (.int .i64 ps[k].num) ∧ w.cell? ⟨g, k * 4 + 3, none⟩ = some (.slice a ps[k].kids.length c) ∧ IntsAt w (.slice a ps[k].kids.length c) (ps[k].kids.map fun i : Nat => (i : Int))
theorem PRow.below {w w' : World} {base : Nat} {v : Value} {ps : List PD} {kv : List Value} (h : PRow w base v ps kv) (hb : Below w.heap.size w w') : PRow w' base v ps kv :=
  ⟨row_below h.row hb, h.klen, fun i hi => row_below (h.kids i hi) hb⟩
theorem PRow.weak {w : World} {base base' : Nat} {v : Value} {ps : List PD} {kv : List Value} (h : PRow w base v ps kv) (hb : base' ≤ base) : PRow w base' v ps kv := ⟨own_weak h.row hb, h.klen, h.kids⟩
theorem PIn.below {w w' : World} {v : Value} {ps : List PD} (h : PIn w v ps) (hb : Below w.heap.size w w') : PIn w' v ps := by
  obtain ⟨av, cap, h1, h2⟩ := h
  refine ⟨av, cap, h1, fun k hk => ?_⟩
  obtain ⟨g, a, c, k1, k2, k3, k4, k5, k6, k7⟩ := h2 k hk
  exact ⟨g, a, c, k1, Nat.lt_of_lt_of_le k2 hb.size, cell_keep hb k2 k3, cell_keep hb k2 k4, cell_keep hb k2 k5, cell_keep hb k2 k6, k7.below hb⟩
theorem TreeAt.pin {w : World} {base : Nat} {vp vo : Value} {kv : List Value} {ps : List PD} {offs : List Nat} (h : TreeAt w base vp vo kv ps offs) : PIn w vp ps := by
  obtain ⟨av, hv⟩ := h.parts.shp
  refine ⟨av, ps.length, hv, fun k hk => ?_⟩
  obtain ⟨g, a, c, h1, h2, h3, d0, d1, d2, d3, h4⟩ := h.part hk
  rw [hv] at h1
  injection h1 with h1
  exact ⟨g, a, c, h1, h2, d0, d1, d2, d3, h4⟩
theorem PRow.pin {w : World} {base : Nat} {v : Value} {ps : List PD} {kv : List Value} (h : PRow w base v ps kv) : PIn w v ps := by
  obtain ⟨av, cap, hv⟩ := own_form h.row
  refine ⟨av, cap, hv, fun k hk => ?_⟩
  have hr := h.row
  rcases hr.2 with ⟨e1, e2⟩ | ⟨g, cap', cur, e1, e2, e3, e4, e5, e6, e7⟩
  · omega
  · rw [hv] at e1
    injection e1 with e1 _ e1b
    subst e1 e1b
    rw [hv] at hr
    obtain ⟨a, c, hk2⟩ := own_form (h.kids k hk)
    have hi := kid_ints (h.kids k hk)
    rw [hk2] at hi
    have hc : ∀ j u, j < 4 → (partCells ps[k] (.slice a ps[k].kids.length c))[j]? = some u → w.cell? ⟨g, k * 4 + j, none⟩ = some u := fun j u hj hu => by
      rw [hr.cellAt (k * 4 + j) (by omega), partRow_at ps kv h.klen k hk j hj, hk2]; exact hu
    exact ⟨g, a, c, rfl, (Array.getElem?_eq_some_iff.1 e3).1, hc 0 _ (by omega) rfl, hc 1 _ (by omega) rfl, hc 2 _ (by omega) rfl, hc 3 _ (by omega) rfl, hi⟩
/-- A row of numbers lies elsewhere than a row of parts. -/
theorem kid_apart {w : World} {base n : Nat} {v u : Value} {xs : List Value} {kids : List Nat} (h : w.ownsRow base 41 4 v n xs) (hk : kidRow w 0 u kids) : u.ownBlock = none ∨ u.ownBlock ≠ v.ownBlock := by
  rcases hk.2 with ⟨e, _⟩ | ⟨g, cap, cur, e, _, hg, _⟩
  · exact .inl (by rw [e]; rfl)
  · right
    rw [e]
    rcases h.2 with ⟨e2, _⟩ | ⟨g2, cap2, cur2, e2, _, hg2, _⟩
    · rw [e2]; simp [Value.ownBlock]
    · rw [e2]
      intro e3
      have e4 : g = g2 := by simpa [Value.ownBlock] using e3
      subst e4
      rw [hg] at hg2
      injection hg2 with hg2
      injection hg2 with _ e5
      exact absurd e5 (by decide)
theorem partRow_snoc2 : ∀ (ps : List PD) (kv : List Value), kv.length = ps.length → ∀ (p : PD) (u : Value), partRow (ps ++ [p]) (kv ++ [u]) = partRow ps kv ++ partCells p u
  | [], [], _, p, u => by simp [partRow]
  | [], _ :: _, h, _, _ => by simp at h
  | _ :: _, [], h, _, _ => by simp at h
  | q :: ps, x :: kv, h, p, u => by
    simp only [List.cons_append, partRow, List.append_assoc]
    rw [partRow_snoc2 ps kv (by simpa using h)]
theorem partRow_app : ∀ (ps : List PD) (kv : List Value), kv.length = ps.length → ∀ (qs : List PD) (ku : List Value), partRow (ps ++ qs) (kv ++ ku) = partRow ps kv ++ partRow qs ku
  | [], [], _, qs, ku => by simp [partRow]
  | [], _ :: _, h, _, _ => by simp at h
  | _ :: _, [], h, _, _ => by simp at h
  | q :: ps, x :: kv, h, qs, ku => by
    simp only [List.cons_append, partRow, List.append_assoc]
    rw [partRow_app ps kv (by simpa using h)]
/-- Parts have been appended. -/
theorem PRow.app {w w1 : World} {base : Nat} {v v1 : Value} {ps qs : List PD} {kv ku : List Value} (h : PRow w base v ps kv) (hg : w.grownBy w1 v.ownBlock) (ho : w1.ownsRow base 41 4 v1 (ps.length + qs.length) (partRow ps kv ++ partRow qs ku)) (hl : ku.length = qs.length)
    (hq : ∀ i (h : i < qs.length), kidRow w 0 (ku.getD i undef) qs[i].kids) : PRow w1 base v1 (ps ++ qs) (kv ++ ku) := by
  refine ⟨by rw [partRow_app _ _ h.klen, List.length_append]; exact ho, by rw [List.length_append, List.length_append, h.klen, hl], fun i hi => ?_⟩
  rcases Nat.lt_or_ge i ps.length with h1 | h1
  · have hk := h.kids i h1
    have e : (kv ++ ku).getD i undef = kv.getD i undef := by rw [List.getD_eq_getElem?_getD, List.getD_eq_getElem?_getD, List.getElem?_append_left (by rw [h.klen]; exact h1)]
    have e2 : (ps ++ qs)[i] = ps[i] := List.getElem_append_left h1
    rw [e, e2]
    exact hk.kept hg (kid_apart h.row hk)
  · simp only [List.length_append] at hi
    have hk := hq (i - ps.length) (by omega)
    have e : (kv ++ ku).getD i undef = ku.getD (i - ps.length) undef := by rw [List.getD_eq_getElem?_getD, List.getD_eq_getElem?_getD, List.getElem?_append_right (by rw [h.klen]; exact h1), h.klen]
    have e2 : (ps ++ qs)[i] = qs[i - ps.length] := List.getElem_append_right h1
    rw [e, e2]
    exact hk.kept hg (kid_apart h.row hk)
theorem PRow.nil (w : World) (base : Nat) : PRow w base (.slice none 0 0) [] [] := ⟨World.ownsRow_nil w base _ _, rfl, fun i hi => by simp at hi⟩
set_option maxHeartbeats 8000000 in
set_option maxRecDepth 100000 in
theorem sameParts_any {ps : List PD} (hl : ps.length ≤ 100000) {vp vp2 : Value} {w : World} (hT : PIn w vp ps) (hT2 : PIn w vp2 ps) (hk : ∀ p ∈ ps, p.kids.length ≤ 1000000) :
    Calls Tryd.prog 14 #[.agg #[vp], .agg #[vp2]] w fun e w' => e = .returned (.bool true) ∧ Below w.heap.size w w' := by
  obtain ⟨av, cv, rfl, hp1⟩ := hT
  obtain ⟨av2, cv2, rfl, hp2⟩ := hT2
  have TR := Lib.hid hp1
  have TR2 := Lib.hid hp2
  have HK := Lib.hid hk
  clear hp1 hp2 hk
  go_enter Tryd.func14, Tryd.ntmps14
  go_wp2
  go_loopw [5] (fun v wr => ∃ k : Nat, k ≤ ps.length ∧ v = .int .i64 k ∧ Hid (Below (w.heap.size + 2) ((w.alloc (.cells #[.slice av ps.length cv] 25)).alloc (.cells #[.slice av2 ps.length cv2] 25)) wr)) (fun v _ => ps.length - (intOf v).toNat)
  case atStart => exact ⟨0, by omega, rfl, Lib.hid (Below.refl _ _)⟩
  case round =>
    obtain ⟨k, hk, rfl, HB⟩ := hrel
    have hwr : w.heap.size + 1 < wr.heap.size := by have := HB.out.size; simp at this; omega
    have ct : wr.cell? ⟨w.heap.size, 0, none⟩ = some (.slice av ps.length cv) := cell_keep HB.out (by omega) ((Lib.cell_of_heap ((Below.heap_alloc _ _ _ (by simp)).trans (Go.heap_alloc_new w _)) 0).trans rfl)
    have ct2 : wr.cell? ⟨w.heap.size + 1, 0, none⟩ = some (.slice av2 ps.length cv2) := cell_keep HB.out (by omega) ((Lib.cell_of_heap (by have h := Go.heap_alloc_new (w.alloc (.cells #[.slice av ps.length cv] 25)) (.cells #[.slice av2 ps.length cv2] 25); rw [World.size_alloc] at h; exact h) 0).trans rfl)
    have hBw : Below w.heap.size w wr := (((Below.refl _ w).alloc (Nat.le_refl _) _).alloc (by simp) _).trans (HB.out.mono (by omega))
    have hw0 : w.heap.size < wr.heap.size := by omega
    by_cases hlt : k < ps.length
    · have hI : (k : Int) < (ps.length : Int) := by omega
      obtain ⟨g, a, c, hg1, hg2, d0, d1, d2, d3, hIn⟩ := TR.out k hlt
      obtain ⟨g2, a2, c2, hg3, hg4, e0, e1, e2, e3, hIn2⟩ := TR2.out k hlt
      subst hg1 hg3
      have d0 := cell_keep hBw hg2 d0
      have d1 := cell_keep hBw hg2 d1
      have d2 := cell_keep hBw hg2 d2
      have d3 := cell_keep hBw hg2 d3
      have e0 := cell_keep hBw hg4 e0
      have e1 := cell_keep hBw hg4 e1
      have e2 := cell_keep hBw hg4 e2
      have e3 := cell_keep hBw hg4 e3
      have KI := Lib.hid (hIn.below hBw)
      have KI2 := Lib.hid (hIn2.below hBw)
      have hkl := HK.out _ (List.getElem_mem hlt)
      have hgr : g < wr.heap.size := Nat.lt_of_lt_of_le hg2 hBw.size
      have hgr2 : g2 < wr.heap.size := Nat.lt_of_lt_of_le hg4 hBw.size
      have HBw := Lib.hid hBw
      clear hIn hIn2 hBw
      generalize ps[k] = p at d0 d1 d2 d3 e0 e1 e2 e3 KI KI2 hkl
      obtain ⟨m, hm⟩ : ∃ m, m = p.kids.length := ⟨_, rfl⟩
      have HM := Lib.hid hm
      rw [← hm] at d3 e3 KI KI2 hkl
      clear hm
      go_wp2
      go_loopw [8] (fun v wq => ∃ j : Nat, j ≤ m ∧ v = .int .i64 j ∧ ∃ nd, ((wr.alloc (.cells #[.int .i64 p.kind, .string ⟨p.text.toArray⟩, .int .i64 p.num, .slice a m c] 41)).alloc (.cells #[.int .i64 p.kind, .string ⟨p.text.toArray⟩, .int .i64 p.num, .slice a2 m c2] 41)).drewN nd = wq) (fun v _ => m - (intOf v).toNat)
      case atStart => exact ⟨0, by omega, rfl, 0, World.drewN_zero _⟩
      case round =>
        obtain ⟨j, hj, rfl, nd, rfl⟩ := hrel
        by_cases hlj : j < m
        · have hI2 : (j : Int) < (m : Int) := by omega
          obtain ⟨gk, ok, hk1, hk2, hk3⟩ := ints_cell KI.out (j := j) (by rw [List.length_map]; have := HM.out; omega)
          obtain ⟨gk2, ok2, hk4, hk5, hk6⟩ := ints_cell KI2.out (j := j) (by rw [List.length_map]; have := HM.out; omega)
          subst hk1 hk4
          generalize (p.kids.map fun i : Nat => (i : Int))[j]'(by rw [List.length_map]; have := HM.out; omega) = x at hk3 hk6
          go_wp2
          go_quiet (fail)
          go_wp2
          go_roundw
          case rel => exact ⟨j + 1, by omega, by go_num, _, rfl⟩
          case measure => simp [intOf]; omega
        · have hI2 : ¬ (j : Int) < (m : Int) := by omega
          go_wp2
          go_roundw
          case rel => exact ⟨k + 1, by omega, by go_num, Lib.hid (below_drewN ((HB.out.alloc (by omega) _).alloc (by simp; omega) _) _)⟩
          case measure => simp [intOf]; omega
    · have hI : ¬ (k : Int) < (ps.length : Int) := by omega
      go_wp2
      go_ret
      exact ⟨rfl, hBw⟩

end Go.Proofs.YtghhnnbbjlipcaaDoor.X

set_option linter.unusedVariables false
set_option linter.unusedSimpArgs false
namespace Go.Proofs.YtghhnnbbjlipcaaDoor.X
open Go.RowKit
/-- append of parts to a row of parts. -/
theorem app_parts {ops : Array Oper} {rest : List Oper} {o : Oper} {a : Act} {Q : Exit → Act → World → Prop} {W : World} (base : Nat) (hgd : o.guard = none) (s x : Operand)
    (ho : o.op = .call { callee := .builtin .append, args := #[s, x], argTypes := #[23, 23] })
    (v : Value) (xs news : List Value) (n m : Nat) (ad : Addr) (c : Nat) (hx : a.eval x = .slice (some ad) m c) (hnl : news.length = m * 4) (hnews : ∀ j u, news[j]? = some u → W.cell? (ad.add j) = some u) (h1 : ∀ u ∈ news, u.oneCell' = true) (hs : a.eval s = v)
    (HO : W.ownsRow base 41 4 v n xs) (hbase : base ≤ W.heap.size) (hl : n + m ≤ 1000000000)
    (h : ∀ v1 w1, w1.ownsRow base 41 4 v1 (n + m) (xs ++ news) → W.grownBy w1 v.ownBlock → wpList Tryd.prog ops Q rest (a.put o.dst v1) w1) :
    wpList Tryd.prog ops Q (o :: rest) a W := by
  obtain ⟨i0, hi, hz0, hz1, hz2⟩ := info_parts infoPart
  refine wpList_append_own_at W hgd s x 23 ho base 41 i0 _ 4 56 Tryd.underlying23 hi hz0 hz1 hz2 rfl (by omega) v n _ hs HO ad m c news hx hnl hnews h1 (by simp only [maxLen]; omega) (by omega) hbase ?_
  intro v1 w1 hown hg _ hat
  exact h v1 w1 hown hg
theorem part_one {p : PD} {u : Value} (h : u.oneCell' = true) : ∀ x ∈ partCells p u, x.oneCell' = true := by
  intro x hx
  simp only [partCells, List.mem_cons, List.not_mem_nil, or_false] at hx
  rcases hx with rfl | rfl | rfl | rfl
  · rfl
  · rfl
  · rfl
  · exact h
theorem shift_row {w : World} {base m n : Nat} {s : Value} {kids : List Nat} (hm : m = kids.length) (h : w.ownsRow base 3 1 s m ((kids.take m).map fun x : Nat => Value.int .i64 ((x : Int) + (n : Int)))) : kidRow w 0 s (kids.map (· + n)) := by
  subst hm
  have e : (kids.map (· + n)).map (fun k : Nat => Value.int .i64 (k : Nat)) = (kids.take kids.length).map fun x : Nat => Value.int .i64 ((x : Int) + (n : Int)) := by
    rw [List.take_length, List.map_map]
    apply List.map_congr_left
    intro x _
    simp
  show w.ownsRow 0 3 1 s (kids.map (· + n)).length _
  rw [List.length_map, e]
  exact own_weak h (Nat.zero_le _)
/-- What shifted answers. -/
def ShAns (w : World) (qs : List PD) (e : Ending) (w' : World) : Prop := ∃ v kv, e = .returned v ∧ PRow w' w.heap.size v qs kv ∧ Below w.heap.size w w'
set_option maxHeartbeats 8000000 in
set_option maxRecDepth 100000 in
theorem shifted_any {ps : List PD} (hl : ps.length ≤ 100000) {vp : Value} (n : Nat) (hn : n ≤ 1000000) {w : World} (hT : PIn w vp ps) (hk : ∀ p ∈ ps, p.kids.length ≤ 1000000 ∧ ∀ x ∈ p.kids, x ≤ 1000000) :
    Calls Tryd.prog 15 #[.agg #[vp], .int .i64 n] w (ShAns w (ps.map (shP n))) := by
  obtain ⟨av, cv, rfl, hp1⟩ := hT
  have TR := Lib.hid hp1
  have HK := Lib.hid hk
  clear hp1 hk
  go_enter Tryd.func15, Tryd.ntmps15
  go_wp2
  go_loopw [5, 6] (fun o i wr => ∃ (k : Nat) (kv : List Value) (ao : Option Addr) (co : Nat), k ≤ ps.length ∧ i = .int .i64 k ∧ o = .slice ao k co ∧ Hid (PRow wr (w.heap.size + 1) (.slice ao k co) ((ps.take k).map (shP n)) kv) ∧ Hid (Below (w.heap.size + 1) (w.alloc (.cells #[.slice av ps.length cv] 25)) wr)) (fun _ i _ => ps.length - (intOf i).toNat)
  case atStart => exact ⟨0, [], none, 0, by omega, rfl, rfl, Lib.hid (PRow.nil _ _), Lib.hid (Below.refl _ _)⟩
  case round =>
    obtain ⟨k, kv, ao, co, hk, rfl, rfl, HR, HB⟩ := hrel
    obtain ⟨wo, rfl⟩ : ∃ wo : World, wo = wr := ⟨_, rfl⟩
    have hwo : w.heap.size < wo.heap.size := by have := HB.out.size; simp at this; omega
    have ct : wo.cell? ⟨w.heap.size, 0, none⟩ = some (.slice av ps.length cv) := cell_keep HB.out (by omega) ((Lib.cell_of_heap (Go.heap_alloc_new w _) 0).trans rfl)
    have hBw : Below w.heap.size w wo := ((Below.refl _ w).alloc (Nat.le_refl _) _).trans (HB.out.mono (by omega))
    by_cases hlt : k < ps.length
    · have hI : (k : Int) < (ps.length : Int) := by omega
      obtain ⟨g, a, c, hg1, hg2, d0, d1, d2, d3, hIn⟩ := TR.out k hlt
      subst hg1
      have d0 := cell_keep hBw hg2 d0
      have d1 := cell_keep hBw hg2 d1
      have d2 := cell_keep hBw hg2 d2
      have d3 := cell_keep hBw hg2 d3
      have KI := Lib.hid (hIn.below hBw)
      obtain ⟨hkl, hkb⟩ := HK.out _ (List.getElem_mem hlt)
      have hgr : g < wo.heap.size := Nat.lt_of_lt_of_le hg2 hBw.size
      have HTk : Hid ((ps.take (k + 1)).map (shP n) = (ps.take k).map (shP n) ++ [shP n ps[k]]) := Lib.hid (by rw [List.take_succ_eq_append_getElem hlt, List.map_append]; rfl)
      have HKL : Hid (((ps.take k).map (shP n)).length = k) := Lib.hid (by rw [List.length_map, List.length_take]; omega)
      have HKB := Lib.hid hkb
      have HBw := Lib.hid hBw
      clear hIn hBw hkb
      generalize ps[k] = p at d0 d1 d2 d3 KI hkl HTk HKB
      obtain ⟨m, hm⟩ : ∃ m, m = p.kids.length := ⟨_, rfl⟩
      have HM := Lib.hid hm
      rw [← hm] at d3 KI hkl
      clear hm
      go_wp2
      go_loopw [8, 9] (fun s j wq => ∃ (jj : Nat) (as_ : Option Addr) (cs_ : Nat), jj ≤ m ∧ j = .int .i64 jj ∧ s = .slice as_ jj cs_ ∧ Hid (wq.ownsRow (wo.heap.size + 1) 3 1 (.slice as_ jj cs_) jj ((p.kids.take jj).map fun x : Nat => Value.int .i64 ((x : Int) + (n : Int)))) ∧ Hid (Below (wo.heap.size + 1) (wo.alloc (.cells #[.int .i64 p.kind, .string ⟨p.text.toArray⟩, .int .i64 p.num, .slice a m c] 41)) wq)) (fun _ j _ => m - (intOf j).toNat)
      case atStart => exact ⟨0, none, 0, by omega, rfl, rfl, Lib.hid (World.ownsRow_nil _ _ _ _), Lib.hid (Below.refl _ _)⟩
      case round =>
        obtain ⟨jj, as_, cs_, hj, rfl, rfl, HS, HQ⟩ := hrel
        have hq : wo.heap.size < wr.heap.size := by have := HQ.out.size; simp at this; omega
        have hbx : Hid (wr.heap[wo.heap.size]? = some (.cells #[.int .i64 p.kind, .string ⟨p.text.toArray⟩, .int .i64 p.num, .slice a m c] 41 (0, 0))) := Lib.hid ((HQ.out.block _ (by simp)).trans (Go.heap_alloc_new wo _))
        have c3 : wr.cell? ⟨wo.heap.size, 3, none⟩ = some (.slice a m c) := (Lib.cell_of_heap hbx.out 3).trans rfl
        by_cases hlj : jj < m
        · have hI2 : (jj : Int) < (m : Int) := by omega
          have hjk : jj < p.kids.length := by rw [← HM.out]; exact hlj
          obtain ⟨gk, ok, hk1, hk2, hk3⟩ := ints_cell KI.out (j := jj) (by rw [List.length_map]; exact hjk)
          subst hk1
          have hx := HKB.out _ (List.getElem_mem hjk)
          have hkq : wr.cell? ⟨gk, ok + jj, none⟩ = some (.int .i64 (p.kids[jj] : Nat)) := by
            rw [List.getElem_map] at hk3
            exact cell_keep HQ.out (by omega) (cell_keep ((Below.refl _ wo).alloc (Nat.le_refl _) _) hk2 hk3)
          have HSt : Hid ((p.kids.take (jj + 1)).map (fun x : Nat => Value.int .i64 ((x : Int) + (n : Int))) = (p.kids.take jj).map (fun x : Nat => Value.int .i64 ((x : Int) + (n : Int))) ++ [Value.int .i64 ((p.kids[jj] : Nat) + (n : Int))]) := Lib.hid (by rw [List.take_succ_eq_append_getElem hjk, List.map_append]; rfl)
          have hgkq : gk < wr.heap.size := by omega
          clear hk3
          generalize p.kids[jj] = x at hkq hx HSt
          go_wp2_with (at_builtin; go_loud (refine app_int (wo.heap.size + 1) rfl (.tmp 29) (.tmp 37) rfl _ _ _ (.int .i64 ((x : Int) + (n : Int))) _ rfl rfl rfl (by simp [Act.eval]) HS.out (by omega) (by omega) ?_; intro v1 w1 hown1 hg1 hat1; obtain ⟨as2, cs2, rfl⟩ := own_form hown1; have HO1 := Lib.hid hown1; have HG1 := Lib.hid hg1; clear hown1 hg1 hat1))
          go_roundw
          case rel =>
            refine ⟨jj + 1, as2, cs2, by omega, by go_num, rfl, Lib.hid (by rw [HSt.out]; exact HO1.out), Lib.hid ?_⟩
            exact (HQ.out.alloc (by omega) _).grown HG1.out (by simp; omega) (fun k e => (HS.out.lt k e).1)
          case measure => simp [intOf]; omega
        · obtain rfl : jj = m := by omega
          have hI2 : ¬ (jj : Int) < (jj : Int) := by omega
          have c0 : wr.cell? ⟨wo.heap.size, 0, none⟩ = some (.int .i64 p.kind) := (Lib.cell_of_heap hbx.out 0).trans rfl
          have c1 : wr.cell? ⟨wo.heap.size, 1, none⟩ = some (.string ⟨p.text.toArray⟩) := (Lib.cell_of_heap hbx.out 1).trans rfl
          have c2 : wr.cell? ⟨wo.heap.size, 2, none⟩ = some (.int .i64 p.num) := (Lib.cell_of_heap hbx.out 2).trans rfl
          have cf : ∀ j, wr.frozen? ⟨wo.heap.size, j, none⟩ = false := fun j => by simp [World.frozen?, hbx.out]
          have hone : (Value.slice as_ jj cs_).oneCell' = true := rfl
          have hBS : Below wo.heap.size wo (wr.setCell ⟨wo.heap.size, 3, none⟩ (.slice as_ jj cs_)) := (((Below.refl _ wo).alloc (Nat.le_refl _) _).trans (HQ.out.mono (by omega))).grown (set_grown wr wo.heap.size 3 _) (by omega) (fun k e => by cases e; exact Nat.le_refl _)
          have HBW := Lib.hid (hBS.alloc (Nat.le_trans (by omega) (set_grown wr wo.heap.size 3 (.slice as_ jj cs_)).size) (.cells #[.int .i64 p.kind, .string ⟨p.text.toArray⟩, .int .i64 p.num, .slice as_ jj cs_] 41))
          have hrow := (HR.out.below HBW.out).row
          rw [HKL.out] at hrow
          have HRow := Lib.hid hrow
          clear hBS hrow
          go_wp2_with (at_builtin; go_loud (refine app_parts (w.heap.size + 1) rfl (.tmp 41) (.tmp 43) rfl _ _ (partCells p (.slice as_ jj cs_)) _ 1 ⟨wr.heap.size, 0, none⟩ 1 (by simp [Act.eval]) rfl ?hn (part_one rfl) rfl HRow.out (by simp; omega) (by omega) ?_; (case hn => exact fun j u hu => World.news_of_block (cs := #[.int .i64 p.kind, .string ⟨p.text.toArray⟩, .int .i64 p.num, .slice as_ jj cs_]) (t := 41) (fr := (0, 0)) (by have := heap_alloc_new (wr.setCell ⟨wo.heap.size, 3, none⟩ (.slice as_ jj cs_)) (.cells #[.int .i64 p.kind, .string ⟨p.text.toArray⟩, .int .i64 p.num, .slice as_ jj cs_] 41); simpa using this) j u hu); intro v1 w1 hown1 hg1; obtain ⟨ao2, co2, rfl⟩ := own_form hown1; have HO1 := Lib.hid hown1; have HG1 := Lib.hid hg1; clear hown1 hg1))
          go_roundw
          case rel =>
            have hks : kidRow ((wr.setCell ⟨wo.heap.size, 3, none⟩ (.slice as_ jj cs_)).alloc (.cells #[.int .i64 p.kind, .string ⟨p.text.toArray⟩, .int .i64 p.num, .slice as_ jj cs_] 41)) 0 (.slice as_ jj cs_) (shP n p).kids :=
              shift_row HM.out ((HS.out.kept (set_grown wr wo.heap.size 3 (.slice as_ jj cs_)) (by
                cases hb : (Value.slice as_ jj cs_).ownBlock with
                | none => exact .inl rfl
                | some b => exact .inr (fun e => by injection e with e; have := (HS.out.lt b hb).1; omega))).alloc _)
            have hPW := HR.out.below HBW.out
            have hPR := hPW.app (qs := [shP n p]) (ku := [.slice as_ jj cs_]) HG1.out (by rw [HKL.out]; simpa [partRow, partCells, shP] using HO1.out) rfl (fun i hi => by
              have : i = 0 := by simpa using hi
              subst this
              exact hks)
            rw [← HTk.out] at hPR
            refine ⟨k + 1, _, ao2, co2, by omega, by go_num, rfl, Lib.hid hPR, Lib.hid ?_⟩
            exact (HB.out.trans (HBW.out.mono (by omega))).grown HG1.out (by have := HBW.out.size; have := hwo; omega) (fun b e => (HR.out.row.lt b e).1)
          case measure => simp [intOf]; omega
    · have hI : ¬ (k : Int) < (ps.length : Int) := by omega
      obtain rfl : k = ps.length := by omega
      have HRf := Lib.hid (HR.out.weak (base' := w.heap.size) (by omega))
      rw [List.take_length] at HRf
      go_wp2
      go_ret
      exact ⟨_, _, rfl, HRf.out, hBw⟩

end Go.Proofs.YtghhnnbbjlipcaaDoor.X

set_option linter.unusedVariables false
set_option linter.unusedSimpArgs false
namespace Go.Proofs.YtghhnnbbjlipcaaDoor.X
open Go.RowKit
set_option maxHeartbeats 4000000 in
set_option maxRecDepth 100000 in
theorem limited_yes (c a : Int) (hc : c = 110 ∨ c = 122 ∨ c = 123) (w : World) : Calls Tryd.prog 26 #[.agg (H.fcells c a ⟨#[]⟩)] w fun e w' => e = .returned (.bool true) ∧ Below w.heap.size w w' := by
  rcases hc with rfl | rfl | rfl
  all_goals
    go_enter Tryd.func26, Tryd.ntmps26
    go_wp2
    go_ret
    exact ⟨rfl, (Below.refl _ _).alloc (Nat.le_refl _) _⟩
set_option maxHeartbeats 4000000 in
set_option maxRecDepth 100000 in
theorem limited_no (a : Int) (w : World) : Calls Tryd.prog 26 #[.agg (H.fcells 0 a ⟨#[]⟩)] w fun e w' => e = .returned (.bool false) ∧ Below w.heap.size w w' := by
  go_enter Tryd.func26, Tryd.ntmps26
  go_wp2
  go_ret
  exact ⟨rfl, (Below.refl _ _).alloc (Nat.le_refl _) _⟩
section
attribute [-go_sem] storeCells loadCells loadCellsFrom
attribute [local go_sem] H.sc1 st1b st_int
set_option maxHeartbeats 8000000 in
set_option maxRecDepth 100000 in
theorem reads_err (s : ByteArray) (n cap : Nat) (av : Option Addr) (w : World) (hs : s.size ≤ 9223372036854775807) (hL : LW w) (c : Int) (a : Nat) (hr : parseL s.data.toList = .error (c, a)) (hcase : (c = 110 ∧ 4096 < s.size) ∨ c = 122 ∨ (c = 123 ∧ 1000 < n)) :
    Calls Tryd.prog 16 #[.string s, .slice av n cap] w fun e w' => e = .returned (.bool true) ∧ Below w.heap.size w w' := by
  have PC := Lib.hid (parse_c s w hs hL)
  rw [hr] at PC
  have HC0 : Hid (c ≠ 0) := Lib.hid (by omega)
  have HLim := Lib.hid (fun W => limited_yes c (a : Nat) (by omega) W)
  clear hr hL
  rcases hcase with ⟨rfl, h1⟩ | rfl | ⟨rfl, h1⟩
  · have hI : (4096 : Int) < (s.size : Int) := by omega
    go_enter Tryd.func16, Tryd.ntmps16
    go_wp2_with (first
      | (go_at_call 26; refine (HLim.out _).mono ?_; rintro e w3 ⟨rfl, hB3⟩; have z0 : w3.cell? ⟨w2.heap.size, 0, none⟩ = some (.int .i64 110) := cell_keep hB3 (by simp) ((Lib.cell_of_heap (Go.heap_alloc_new w2 _) 0).trans rfl); have hz3 : w2.heap.size < w3.heap.size := (by have := hB3.size; simp at this; omega); have HB3 := Lib.hid ((HB2.out.alloc HB2.out.size _).trans (hB3.mono (by have := HB2.out.size; simp; omega))); clear hB3)
      | (go_at_call 9; refine (read_err2 (c := 110) (a := (a : Nat)) _ ((Below.heap_alloc _ _ _ (Array.getElem?_eq_some_iff.1 HF1.out).1).trans HF1.out) HC0.out).mono ?_; rintro e w2 ⟨rfl, hB2⟩; have hl8 := H.l_cells (w2.alloc (.cells (H.fcells 110 (a : Nat) ⟨#[]⟩) 35)) w2.heap.size _ 110 (a : Nat) ⟨#[]⟩ (Go.heap_alloc_new w2 _); have HB2 := Lib.hid ((HB1.out.alloc HB1.out.size _).trans (hB2.mono (by have := HB1.out.size; simp; omega))); clear hB2)
      | (go_at_call 8; refine PC.out.mono ?_; rintro e w1 ⟨hB1, b1, rfl, g1, g2⟩; have HF1 := Lib.hid g2; have HB1 := Lib.hid hB1; clear hB1 g1 g2))
    go_ret
    exact ⟨rfl, HB3.out⟩
  · go_enter Tryd.func16, Tryd.ntmps16
    go_wp2_with (first
      | (go_at_call 26; refine (HLim.out _).mono ?_; rintro e w3 ⟨rfl, hB3⟩; have z0 : w3.cell? ⟨w2.heap.size, 0, none⟩ = some (.int .i64 122) := cell_keep hB3 (by simp) ((Lib.cell_of_heap (Go.heap_alloc_new w2 _) 0).trans rfl); have hz3 : w2.heap.size < w3.heap.size := (by have := hB3.size; simp at this; omega); have HB3 := Lib.hid ((HB2.out.alloc HB2.out.size _).trans (hB3.mono (by have := HB2.out.size; simp; omega))); clear hB3)
      | (go_at_call 9; refine (read_err2 (c := 122) (a := (a : Nat)) _ ((Below.heap_alloc _ _ _ (Array.getElem?_eq_some_iff.1 HF1.out).1).trans HF1.out) HC0.out).mono ?_; rintro e w2 ⟨rfl, hB2⟩; have hl8 := H.l_cells (w2.alloc (.cells (H.fcells 122 (a : Nat) ⟨#[]⟩) 35)) w2.heap.size _ 122 (a : Nat) ⟨#[]⟩ (Go.heap_alloc_new w2 _); have HB2 := Lib.hid ((HB1.out.alloc HB1.out.size _).trans (hB2.mono (by have := HB1.out.size; simp; omega))); clear hB2)
      | (go_at_call 8; refine PC.out.mono ?_; rintro e w1 ⟨hB1, b1, rfl, g1, g2⟩; have HF1 := Lib.hid g2; have HB1 := Lib.hid hB1; clear hB1 g1 g2))
    go_ret
    exact ⟨rfl, HB3.out⟩
  · have hI : (1000 : Int) < (n : Int) := by omega
    go_enter Tryd.func16, Tryd.ntmps16
    go_wp2_with (first
      | (go_at_call 26; refine (HLim.out _).mono ?_; rintro e w3 ⟨rfl, hB3⟩; have z0 : w3.cell? ⟨w2.heap.size, 0, none⟩ = some (.int .i64 123) := cell_keep hB3 (by simp) ((Lib.cell_of_heap (Go.heap_alloc_new w2 _) 0).trans rfl); have hz3 : w2.heap.size < w3.heap.size := (by have := hB3.size; simp at this; omega); have HB3 := Lib.hid ((HB2.out.alloc HB2.out.size _).trans (hB3.mono (by have := HB2.out.size; simp; omega))); clear hB3)
      | (go_at_call 9; refine (read_err2 (c := 123) (a := (a : Nat)) _ ((Below.heap_alloc _ _ _ (Array.getElem?_eq_some_iff.1 HF1.out).1).trans HF1.out) HC0.out).mono ?_; rintro e w2 ⟨rfl, hB2⟩; have hl8 := H.l_cells (w2.alloc (.cells (H.fcells 123 (a : Nat) ⟨#[]⟩) 35)) w2.heap.size _ 123 (a : Nat) ⟨#[]⟩ (Go.heap_alloc_new w2 _); have HB2 := Lib.hid ((HB1.out.alloc HB1.out.size _).trans (hB2.mono (by have := HB1.out.size; simp; omega))); clear hB2)
      | (go_at_call 8; refine PC.out.mono ?_; rintro e w1 ⟨hB1, b1, rfl, g1, g2⟩; have HF1 := Lib.hid g2; have HB1 := Lib.hid hB1; clear hB1 g1 g2))
    go_ret
    exact ⟨rfl, HB3.out⟩
set_option maxHeartbeats 8000000 in
set_option maxRecDepth 100000 in
theorem reads_tree (s : ByteArray) (v : Value) (w : World) (hs : s.size ≤ 9223372036854775807) (hL : LW w) (ps : List PD) (offs : List Nat) (hr : parseL s.data.toList = .ok (ps, offs)) (hv : PIn w v ps) :
    Calls Tryd.prog 16 #[.string s, v] w fun e w' => e = .returned (.bool true) ∧ Below w.heap.size w w' := by
  have PC := Lib.hid (parse_c s w hs hL)
  rw [hr] at PC
  obtain ⟨h1000, hk, _⟩ := either_len hr
  have HV := Lib.hid hv
  have HK := Lib.hid hk
  obtain ⟨av, cv, rfl, _⟩ := hv
  clear hr hL hk
  go_enter Tryd.func16, Tryd.ntmps16
  go_wp2_with (first
    | (go_at_call 14; refine (sameParts_any (by omega) HT3.out HV3.out HK.out).mono ?_; rintro e w4 ⟨rfl, hB4⟩; have HB4 := Lib.hid (HB3.out.trans (hB4.mono HB3.out.size)); clear hB4)
    | (go_at_call 26; refine (limited_no 0 _).mono ?_; rintro e w3 ⟨rfl, hB3⟩; have z0 : w3.cell? ⟨w2.heap.size, 0, none⟩ = some (.int .i64 0) := cell_keep hB3 (by simp) ((Lib.cell_of_heap (Go.heap_alloc_new w2 _) 0).trans rfl); have hz3 : w2.heap.size < w3.heap.size := (by have := hB3.size; simp at this; omega); have E23 : Below w2.heap.size w2 w3 := ((Below.refl _ w2).alloc (Nat.le_refl _) _).trans (hB3.mono (by simp)); have hl5 := ld1 w3 w1.heap.size _ (cell_keep E23 hq2 c5); have HB3 := Lib.hid (HB2.out.trans (E23.mono HB2.out.size)); have HT3 := Lib.hid ((HT2.out.below E23).pin); have HV3 := Lib.hid (HV.out.below HB3.out); clear hB3 E23 c5)
    | (go_at_call 9; refine (H.read_nil _).mono ?_; rintro e w2 ⟨rfl, hB2⟩; have hl8 := H.l_cells (w2.alloc (.cells (H.fcells 0 0 ⟨#[]⟩) 35)) w2.heap.size _ 0 0 ⟨#[]⟩ (Go.heap_alloc_new w2 _); have E12 : Below w1.heap.size w1 w2 := ((Below.refl _ w1).alloc (Nat.le_refl _) _).trans (hB2.mono (by simp)); have c5 : w2.cell? ⟨w1.heap.size, 0, none⟩ = some (.slice avp ps.length ps.length) := cell_keep hB2 (by simp) ((Lib.cell_of_heap (Go.heap_alloc_new w1 _) 0).trans rfl); have hq2 : w1.heap.size < w2.heap.size := (by have := hB2.size; simp at this; omega); have HT2 := Lib.hid (HT1.out.below E12); have HB2 := Lib.hid (HB1.out.trans (E12.mono HB1.out.size)); clear hB2 E12)
    | (go_at_call 8; refine PC.out.mono ?_; rintro e w1 ⟨hB1, vp, vo, kv, rfl, hT⟩; obtain ⟨avp, rfl⟩ := hT.parts.shp; have HT1 := Lib.hid hT; have HB1 := Lib.hid hB1; clear hB1 hT))
  go_ret
  exact ⟨rfl, HB4.out⟩
end
theorem reads_any (s : ByteArray) (v : Value) (w : World) (hs : s.size ≤ 9223372036854775807) (hL : LW w) (ps : List PD) (hr : ReadsOK s.data.toList ps) (hv : PIn w v ps) :
    Calls Tryd.prog 16 #[.string s, v] w fun e w' => e = .returned (.bool true) ∧ Below w.heap.size w w' := by
  have h4 : s.data.toList.length = s.size := by simp
  rcases hr with ⟨h1, h2⟩ | ⟨q, h1⟩ | ⟨h1, q, h2⟩ | ⟨offs, h1⟩
  · obtain ⟨av, cv, rfl, _⟩ := hv; exact reads_err s _ cv av w hs hL _ _ h2 (.inl ⟨rfl, by omega⟩)
  · obtain ⟨av, cv, rfl, _⟩ := hv; exact reads_err s _ cv av w hs hL _ _ h1 (.inr (.inl rfl))
  · obtain ⟨av, cv, rfl, _⟩ := hv; exact reads_err s _ cv av w hs hL _ _ h2 (.inr (.inr ⟨rfl, h1⟩))
  · exact reads_tree s v w hs hL ps offs h1 hv

end Go.Proofs.YtghhnnbbjlipcaaDoor.X

set_option linter.unusedVariables false
set_option linter.unusedSimpArgs false
namespace Go.Proofs.YtghhnnbbjlipcaaDoor.X
open Go.RowKit
theorem kid_form {w : World} {u : Value} {kids : List Nat} (h : kidRow w 0 u kids) : u.oneCell' = true := own_cell h
theorem row_one {w : World} : ∀ (ps : List PD) (kv : List Value), kv.length = ps.length → (∀ i (h : i < ps.length), kidRow w 0 (kv.getD i undef) ps[i].kids) → ∀ x ∈ partRow ps kv, x.oneCell' = true
  | [], [], _, _, x, hx => by simp [partRow] at hx
  | [], _ :: _, h, _, _, _ => by simp at h
  | _ :: _, [], h, _, _, _ => by simp at h
  | p :: ps, u :: kv, h, hk, x, hx => by
    simp only [partRow] at hx
    rcases List.mem_append.1 hx with hx | hx
    · exact part_one (kid_form (hk 0 (by simp))) x hx
    · exact row_one ps kv (by simpa using h) (fun i hi => by have := hk (i + 1) (by simpa using hi); simpa using this) x hx
theorem partRow_len : ∀ (ps : List PD) (kv : List Value), kv.length = ps.length → (partRow ps kv).length = ps.length * 4
  | [], [], _ => rfl
  | [], _ :: _, h => by simp at h
  | _ :: _, [], h => by simp at h
  | p :: ps, u :: kv, h => by
    simp only [partRow, List.length_append, List.length_cons]
    rw [partRow_len ps kv (by simpa using h)]
    simp [partCells]; omega
/-- Parts just written down. -/
theorem PRow.lit (W : World) (cs : Array Value) {qs : List PD} {ku : List Value} (hcs : cs.toList = partRow qs ku) (hl : ku.length = qs.length) (hk : ∀ i (h : i < qs.length), kidRow W 0 (ku.getD i undef) qs[i].kids) (hs : qs.length ≤ 1000000) {m : Nat} (hm : m = qs.length) :
    PRow (W.alloc (.cells cs 41)) W.heap.size (.slice (some ⟨W.heap.size, 0, none⟩) m m) qs ku := by
  subst hm
  have h := World.ownsRow_lit (base := W.heap.size) (e := 41) (size := 4) W cs qs.length (Nat.le_refl _) (by simp only [maxLen]; omega) (by rw [← Array.length_toList, hcs, partRow_len _ _ hl])
  rw [hcs] at h
  exact ⟨h, hl, fun i hi => (hk i hi).alloc _⟩
/-- What such an append does. -/
theorem run_app {W : World} {base : Nat} {v v2 : Value} {ps qs : List PD} {kv ku : List Value} {b2 : Nat} (H1 : PRow W base v ps kv) (H2 : PRow W b2 v2 qs ku) (h0 : 0 < qs.length) (hbase : base ≤ W.heap.size) (hl : ps.length + qs.length ≤ 1000000) (ty : TypeId) :
    ∃ v1 w1, (Builtin.append_ #[23, 23] ty #[v, v2]).run Tryd.prog W = .ok v1 w1 ∧ PRow w1 base v1 (ps ++ qs) (kv ++ ku) ∧ Below base W w1 := by
  obtain ⟨i0, hi, hz0, hz1, hz2⟩ := info_parts infoPart
  have hr := H2.row
  rcases H2.row.2 with ⟨_, h⟩ | ⟨g, cap, cur, rfl, _, hg, _⟩
  · omega
  · obtain ⟨v1, w1, hrun, hown, hgr, _, hat⟩ := run_append_own_at (P := Tryd.prog) W base 23 ty 41 i0 _ 4 56 Tryd.underlying23 hi hz0 hz1 hz2 rfl (by omega) v ps.length _ H1.row ⟨g, 0, none⟩ qs.length cap (partRow qs ku) (partRow_len _ _ H2.klen)
      (fun j u hu => hr.cells (g := g) rfl j u hu) (row_one _ _ H2.klen H2.kids) (by simp only [maxLen]; omega) (by omega) hbase
    refine ⟨v1, w1, hrun, H1.app hgr hown H2.klen H2.kids, (Below.refl base W).grown hgr hbase (fun k e => (H1.row.lt k e).1)⟩
theorem app_wp {ops : Array Oper} {rest : List Oper} {o : Oper} {a : Act} {Q : Exit → Act → World → Prop} {W : World} (hgd : o.guard = none) (s x : Operand)
    (ho : o.op = .call { callee := .builtin .append, args := #[s, x], argTypes := #[23, 23] }) {base : Nat} {v v2 : Value} {ps qs : List PD} {kv ku : List Value} {b2 : Nat} (hs : a.eval s = v) (hx : a.eval x = v2)
    (H1 : PRow W base v ps kv) (H2 : PRow W b2 v2 qs ku) (h0 : 0 < qs.length) (hbase : base ≤ W.heap.size) (hl : ps.length + qs.length ≤ 1000000)
    (h : ∀ v1 w1, PRow w1 base v1 (ps ++ qs) (kv ++ ku) → Below base W w1 → wpList Tryd.prog ops Q rest (a.put o.dst v1) w1) : wpList Tryd.prog ops Q (o :: rest) a W := by
  obtain ⟨v1, w1, hrun, hP, hB⟩ := run_app H1 H2 h0 hbase hl o.type
  refine wpList_plain hgd fun K hK => ?_
  unfold Oper.wp
  simp [execOp, ho, resolve, invoke, builtin, hs, hx, hrun, Result.andThen]
  exact hK _ _ (h v1 w1 hP hB)
theorem app_step {ops : Array Oper} {o : Oper} {a : Act} {Q : Exit → Act → World → Prop} {K : Act → World → Prop} {W : World} (hw : Region.wanted o (yielded ops a.tmps) = true) (s x : Operand)
    (ho : o.op = .call { callee := .builtin .append, args := #[s, x], argTypes := #[23, 23] }) {base : Nat} {v v2 : Value} {ps qs : List PD} {kv ku : List Value} {b2 : Nat} (hs : a.eval s = v) (hx : a.eval x = v2)
    (H1 : PRow W base v ps kv) (H2 : PRow W b2 v2 qs ku) (h0 : 0 < qs.length) (hbase : base ≤ W.heap.size) (hl : ps.length + qs.length ≤ 1000000)
    (h : ∀ v1 w1, PRow w1 base v1 (ps ++ qs) (kv ++ ku) → Below base W w1 → K (a.put o.dst v1) w1) :
    if Region.wanted o (yielded ops a.tmps) = true then Oper.wp Tryd.prog o a W K Q else K (a.put o.dst undef) W := by
  rw [if_pos hw]
  obtain ⟨v1, w1, hrun, hP, hB⟩ := run_app H1 H2 h0 hbase hl o.type
  unfold Oper.wp execOp
  simp only [ho, resolve, invoke, builtin, Sem.run_bind, Sem.run_pure, Result.andThen_ok, List.map_toArray, List.map_cons, List.map_nil, hs, hx, hrun]
  exact h v1 w1 hP hB
/-- What Parse answers, whatever came in: its shape alone. -/
theorem parse_shape (s : ByteArray) (w : World) (hs : s.size ≤ 9223372036854775807) (hL : LW w) : Calls Tryd.prog 8 #[.string s] w fun e w' => Below w.heap.size w w' ∧ ∃ a n c vo ve, e = .returned (.tuple #[.agg #[.slice a n c], vo, ve]) := by
  refine (parse_c s w hs hL).mono ?_
  rintro e w' ⟨hB, h⟩
  cases hr : parseL s.data.toList with
  | error f =>
    rw [hr] at h
    obtain ⟨b, rfl, _⟩ := h
    exact ⟨hB, _, _, _, _, _, rfl⟩
  | ok p =>
    obtain ⟨ps, offs⟩ := p
    rw [hr] at h
    obtain ⟨vp, vo, kv, rfl, hT⟩ := h
    obtain ⟨av, rfl⟩ := hT.parts.shp
    exact ⟨hB, _, _, _, _, _, rfl⟩

end Go.Proofs.YtghhnnbbjlipcaaDoor.X

