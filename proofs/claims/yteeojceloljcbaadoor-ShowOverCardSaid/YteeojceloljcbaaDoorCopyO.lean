/-
  Copy of a tree that is not large: memory of its own.
-/
import Derived.Test.YteeojceloljcbaaDoorLawV
import Derived.Maps.AppendAt
set_option linter.unusedVariables false
set_option linter.unusedSimpArgs false
namespace Go.Proofs.YteeojceloljcbaaDoor.H
open Go.RowKit Go.Proofs.YteeojceloljcbaaDoorW.PrintWords Go.Proofs.YteeojceloljcbaaDoorW.PrintLast Go.Proofs.YteeojceloljcbaaDoor.P

theorem refLarge_c (A : Option Addr) (c : Nat) (l0 : List Pt) (w : World) (h : Law w A c l0) :
    Calls Tryd.prog 19 #[.agg #[.slice A l0.length c]] w fun e w' => e = .returned (.bool (largeB l0)) ∧ Below w.heap.size w w' := by
  obtain ⟨k, hk⟩ := (large_ev l0 h.small).rounds
  exact berthref13_Large.calls k A c l0 _ w h.reads h.cap hk

/-- The part at a place, as its cells in memory. -/
theorem at_part {ok : Nat → Prop} {w : World} {A : Option Addr} {l0 : List Pt} (h : Kd.F k45 w ok A l0.length l0) (k : Nat) (hk : k < l0.length) (p : Pt) (hp : rd_T45 l0 (k : Int) = p) : ∃ ad A3 c3, A = some ad ∧ w.cell? (ad.add (k * 4)) = some (.int .i64 p.f0) ∧ w.cell? ⟨(ad.add (k * 4)).block, (ad.add (k * 4)).off + 1, none⟩ = some (.string p.f1) ∧
    w.cell? ⟨(ad.add (k * 4)).block, (ad.add (k * 4)).off + 2, none⟩ = some (.int .i64 p.f2) ∧ w.cell? ⟨(ad.add (k * 4)).block, (ad.add (k * 4)).off + 3, none⟩ = some (.slice A3 p.f3.length c3) ∧ p.f3.length ≤ c3 ∧ Kd.F (Kd.int .i64) w ok A3 p.f3.length p.f3 := by
  obtain ⟨ad, cs, e, _, hK, hc0, _⟩ := Kd.F_get h z45 (k : Int) (by omega) (by omega)
  rw [show l0.getD (k : Int).toNat z45 = p from hp] at hK
  obtain ⟨A3, c3, rfl, l3, g3⟩ := k45_openF hK
  have hc : ∀ j u, [Value.int .i64 p.f0, .string p.f1, .int .i64 p.f2, .slice A3 p.f3.length c3][j]? = some u → w.cell? (ad.add (k * 4 + j)) = some u := hc0
  exact ⟨ad, A3, c3, e, hc 0 _ rfl, by rw [← add_field _ _ 1 (by omega)]; exact hc 1 _ rfl, by rw [← add_field _ _ 2 (by omega)]; exact hc 2 _ rfl, by rw [← add_field _ _ 3 (by omega)]; exact hc 3 _ rfl, l3, g3⟩

theorem treeSize : (Tryd.prog.info? 24).map (·.size) = some 1 := by kernel_rfl
/-- append([]int{}, ys...). -/
theorem kids_append {ops : Array Oper} {rest : List Oper} {o : Oper} {a : Act} {Q : Exit → Act → World → Prop} {w0 W : World} (base : Nat) (hgd : o.guard = none) (s x : Operand)
    (ho : o.op = .call { callee := .builtin .append, args := #[s, x], argTypes := #[43, 43] }) (g : Nat) (ys : List Int) (A : Option Addr) (c : Nat) (ok : Nat → Prop)
    (hs : a.eval s = .slice (some ⟨g, 0, none⟩) 0 0) (hx : a.eval x = .slice A ys.length c) (hfresh : ∀ k, W.heap.size ≤ k → ok k) (HO : (Kd.int .i64).R 3 W base ok (.slice (some ⟨g, 0, none⟩) 0 0) [])
    (HR : (Kd.int .i64).C W A ys.length ys) (HB : Below base w0 W) (hbase : base ≤ W.heap.size) (hl : ys.length ≤ 1000000)
    (h : ∀ A4 c4 w2, (Kd.int .i64).R 3 w2 base ok (.slice A4 ys.length c4) ys → ys.length ≤ c4 → Below base w0 w2 → (∀ k, k < W.heap.size → k ≠ g → w2.heap[k]? = W.heap[k]?) → wpList Tryd.prog ops Q rest (a.put o.dst (.slice A4 ys.length c4)) w2) :
    wpList Tryd.prog ops Q (o :: rest) a W := by
  refine Kd.R_append_row (Value.int .i64) 0 (w0 := w0) base hgd s x 43 3 (.int .i64 0) 8 ho Tryd.underlying43 info3 rfl (by decide) _ [] ys A ys.length c ok hs hx hfresh HO HR HB hbase (by simp; omega) ?_
  intro v1 w1 hR hB hg _
  rw [List.nil_append] at hR
  obtain ⟨A4, c4, rfl, l4, -⟩ := Kd.R_reads hR
  exact h A4 c4 w1 hR l4 hB (fun k hk hne => hg.block k hk (by simp only [Value.ownBlock]; intro e; exact hne (Option.some.inj e)))

/-- append(parts, p). -/
theorem part_append {ops : Array Oper} {rest : List Oper} {o : Oper} {a : Act} {Q : Exit → Act → World → Prop} {w0 W : World} (base : Nat) (hgd : o.guard = none) (s x : Operand)
    (ho : o.op = .call { callee := .builtin .append, args := #[s, x], argTypes := #[22, 22] }) (v : Value) (xs : List Pt) (p : Pt) (v3 : Value) (ok okp : Nat → Prop)
    (hs : a.eval s = v) (hx : a.eval x = .slice (some ⟨W.heap.size, 0, none⟩) 1 1) (h3 : (Kd.int .i64).R 3 W base okp v3 p.f3) (hokp : ∀ k, okp k → ok k ∧ some k ≠ v.ownBlock) (hfresh : ∀ k, W.heap.size ≤ k → ok k)
    (HO : Kd.R k45 45 W base ok v xs) (HB : Below base w0 W) (hbase : base ≤ W.heap.size) (hl : xs.length ≤ 1000000)
    (h : ∀ v1 w1, Kd.R k45 45 w1 base ok v1 (xs ++ [p]) → Below base w0 w1 → (∀ k, k < W.heap.size → some k ≠ v.ownBlock → w1.heap[k]? = W.heap[k]?) → wpList Tryd.prog ops Q rest (a.put o.dst v1) w1) :
    wpList Tryd.prog ops Q (o :: rest) a (W.alloc (.cells #[.int .i64 p.f0, .string p.f1, .int .i64 p.f2, v3] 45)) := by
  refine Kd.R_append k45 (w0 := w0) base hgd s x 22 45 _ 56 ho Tryd.underlying22 info45 rfl (by decide) (by decide) v xs p [.int .i64 p.f0, .string p.f1, .int .i64 p.f2, v3] ok okp hs hx (k45_mkM W base okp p h3) hokp hfresh HO HB hbase (by omega) ?_
  intro v1 w1 hR hB hg _
  exact h v1 w1 hR hB (fun k hk hne => hg.block k hk hne)

theorem kidSum_mem (p : Pt) : ∀ l : List Pt, p ∈ l → p.f3.length ≤ kidSum l
  | [], h => by cases h
  | q :: l, h => by
    rw [kidSum]
    rcases List.mem_cons.1 h with rfl | h
    · omega
    · have := kidSum_mem p l h; omega
theorem large_part {l0 : List Pt} (hl : largeB l0 = false) (k : Nat) (hk : k < l0.length) : (rd_T45 l0 (k : Int)).f3.length ≤ 100000 := by
  have e : rd_T45 l0 (k : Int) = l0[k] := by simp [rd_T45, List.getD_eq_getElem?_getD, List.getElem?_eq_getElem hk]
  rw [e]
  have := kidSum_mem l0[k] l0 (List.getElem_mem hk)
  simp [largeB] at hl
  omega

set_option maxHeartbeats 4000000 in
set_option maxRecDepth 100000 in
theorem copy_own (A : Option Addr) (c : Nat) (l0 : List Pt) (w : World) (h : Law w A c l0) (hl : largeB l0 = false) (hn : l0.length ≤ 1000000) :
    Calls Tryd.prog 12 #[.agg #[.slice A l0.length c]] w fun e w' => ∃ v, e = .returned (.agg #[v]) ∧ Kd.R k45 45 w' w.heap.size (fun k => w.heap.size + 2 ≤ k) v l0 ∧ Below w.heap.size w w' := by
  have HL := Lib.hid h
  have LC := Lib.hid (refLarge_c A c l0)
  rw [hl] at LC
  have HW := Lib.hid (((Below.refl w.heap.size w).alloc (Nat.le_refl _) (.cells #[.slice A l0.length c] 24)).alloc (by simp) (.cells #[.slice none 0 0] 24))
  have L0 := Lib.hid (HL.out.below HW.out)
  have HLG := Lib.hid hl
  clear h hl
  go_enter Tryd.func12, Tryd.ntmps12
  go_wp2_with fail
  refine (LC.out _ L0.out).mono ?_
  rintro e w1 ⟨rfl, hB⟩
  have HB := Lib.hid (below_then HW.out HW.out.size hB)
  have t0 : w1.heap[w.heap.size]? = some (.cells #[.slice A l0.length c] 24 (0, 0)) := (hB.block w.heap.size (by simp; omega)).trans (by rw [Below.heap_alloc _ _ _ (by simp)]; exact Go.heap_alloc_new _ _)
  have t1 : w1.heap[w.heap.size + 1]? = some (.cells #[.slice none 0 0] 24 (0, 0)) := (hB.block (w.heap.size + 1) (by simp)).trans (Go.heap_alloc2_new _ _ _)
  go_wp2_with fail
  have R1 : Hid (w1.heap[w.heap.size]? = some (.cells #[.slice A l0.length c] 24 (0, 0)) ∧ w1.heap[w.heap.size + 1]? = some (.cells #[.slice none 0 0] 24 (0, 0)) ∧ Below w.heap.size w w1) := Lib.hid ⟨t0, t1, HB.out⟩
  clear hB t0 t1 LC L0 HB HW
  go_loopw [4, 5] (fun v i wr => ∃ k : Nat, k ≤ l0.length ∧ i = .int .i64 k ∧ Hid (Kd.R k45 45 wr w.heap.size (fun k => w.heap.size + 2 ≤ k) v (l0.take k)) ∧ Hid (wr.heap[w.heap.size]? = some (.cells #[.slice A l0.length c] 24 (0, 0)) ∧ wr.heap[w.heap.size + 1]? = some (.cells #[.slice none 0 0] 24 (0, 0)) ∧ Below w.heap.size w wr)) (fun _ i _ => l0.length - (intOf i).toNat)
  case atStart => exact ⟨0, Nat.zero_le _, rfl, Lib.hid (by simpa using Kd.R_nil _ _ _ _ _), R1⟩
  case round =>
    obtain ⟨k, hk, rfl, HR, HS⟩ := hrel
    obtain ⟨t0, t1, hB⟩ := HS.out
    have c0 : wr.cell? ⟨w.heap.size, 0, none⟩ = some (.slice A l0.length c) := by rw [Lib.cell_of_heap t0]; rfl
    have hz1 : w.heap.size + 1 < wr.heap.size := (Array.getElem?_eq_some_iff.1 t1).1
    have c1 : wr.cell? ⟨w.heap.size + 1, 0, none⟩ = some (.slice none 0 0) := by rw [Lib.cell_of_heap t1]; rfl
    have f1 : wr.frozen? ⟨w.heap.size + 1, 0, none⟩ = false := by simp [World.frozen?, t1]
    clear R1
    by_cases hlt : k < l0.length
    · have hBk : decide (k < l0.length) = true := by simp; omega
      obtain ⟨ad, A3, c3, rfl, e0, e1, e2, e3, l3, g3⟩ := at_part (HL.out.below hB).tree k hlt _ rfl
      have HT : Hid (l0.take (k + 1) = l0.take k ++ [rd_T45 l0 (k : Int)]) := Lib.hid (by
        rw [List.take_succ_eq_append_getElem hlt]
        simp [rd_T45, List.getD_eq_getElem?_getD, List.getElem?_eq_getElem hlt])
      have hp3 := large_part HLG.out k hlt
      generalize rd_T45 l0 (k : Int) = p at *
      have G3 := Lib.hid g3
      clear g3 t0 t1 hB
      have h4 := HR.out
      have hb4 := (Kd.R_bound HR.out).1
      have HO1 : Hid ((Kd.int .i64).R 3 ((wr.alloc (.cells #[.int .i64 p.f0, .string p.f1, .int .i64 p.f2, .slice A3 p.f3.length c3] 45)).alloc (.cells #[] 3)) w.heap.size (fun k => wr.heap.size + 1 ≤ k) (.slice (some ⟨wr.heap.size + 1, 0, none⟩) 0 0) []) :=
        Lib.hid (Kd.R_of_own (by simpa [nums, encs] using own_lit (wr.alloc (.cells #[.int .i64 p.f0, .string p.f1, .int .i64 p.f2, .slice A3 p.f3.length c3] 45)) w.heap.size 3 .i64 [] (by simp; omega) (by simp)) (fun k hk => by simp [Value.ownBlock] at hk; omega))
      have HB0 : Hid (Below wr.heap.size wr ((wr.alloc (.cells #[.int .i64 p.f0, .string p.f1, .int .i64 p.f2, .slice A3 p.f3.length c3] 45)).alloc (.cells #[] 3))) := Lib.hid (((Below.refl _ _).alloc (Nat.le_refl _) _).alloc (by simp) _)
      have HB1 : Hid (Below w.heap.size w ((wr.alloc (.cells #[.int .i64 p.f0, .string p.f1, .int .i64 p.f2, .slice A3 p.f3.length c3] 45)).alloc (.cells #[] 3))) := Lib.hid (HS.out.2.2.trans (HB0.out.mono (by omega)))
      have HC1 : Hid ((Kd.int .i64).C ((wr.alloc (.cells #[.int .i64 p.f0, .string p.f1, .int .i64 p.f2, .slice A3 p.f3.length c3] 45)).alloc (.cells #[] 3)) A3 p.f3.length p.f3) := Lib.hid (Kd.C_below (Kd.F_now G3.out) HB0.out)
      clear h4
      go_wp2_with (first
        | (at_builtin; (refine kids_append (w0 := w) w.heap.size rfl (.tmp 23) (.tmp 25) rfl (wr.heap.size + 1) p.f3 A3 c3 (fun k => wr.heap.size + 1 ≤ k) rfl rfl (fun k hk => by simp only [World.size_alloc] at hk; omega) HO1.out HC1.out HB1.out (by first | (simp only [World.size_alloc]; done) | (simp only [World.size_alloc]; omega)) (by omega) ?_; intro A4 c4 w2 hR2 l4 hb2 hg2; have HR2 := Lib.hid hR2; have HG2 := Lib.hid hg2; have HB2 := Lib.hid hb2; have hpb : w2.heap[wr.heap.size]? = some (.cells #[.int .i64 p.f0, .string p.f1, .int .i64 p.f2, .slice A3 p.f3.length c3] 45 (0, 0)) := (hg2 wr.heap.size (by first | (simp only [World.size_alloc]; done) | (simp only [World.size_alloc]; omega)) (by omega)).trans ((Below.heap_alloc _ _ _ (by simp)).trans (Go.heap_alloc_new _ _)); have q0 : w2.cell? ⟨wr.heap.size, 0, none⟩ = some (.int .i64 p.f0) := (Lib.cell_of_heap hpb _).trans rfl; have q1 : w2.cell? ⟨wr.heap.size, 1, none⟩ = some (.string p.f1) := (Lib.cell_of_heap hpb _).trans rfl; have q2 : w2.cell? ⟨wr.heap.size, 2, none⟩ = some (.int .i64 p.f2) := (Lib.cell_of_heap hpb _).trans rfl; have q3 : w2.cell? ⟨wr.heap.size, 3, none⟩ = some (.slice A3 p.f3.length c3) := (Lib.cell_of_heap hpb _).trans rfl; have qf : w2.frozen? ⟨wr.heap.size, 3, none⟩ = false := (by simp [World.frozen?, hpb]); have hsz2 : wr.heap.size < w2.heap.size := (Array.getElem?_eq_some_iff.1 hpb).1; clear hg2 hpb hb2 hR2))
        | (at_builtin; go_loud (refine part_append (w0 := w) w.heap.size rfl (.tmp 28) (.tmp 30) rfl u4 (l0.take k) p (.slice A4 p.f3.length c4) (fun k => w.heap.size + 2 ≤ k) (fun k => wr.heap.size + 1 ≤ k) rfl (by rw [World.size_setCell]; rfl) ?c1 ?c2 ?c3 ?c4 ?c5 ?c6 ?c7 ?_; (case c1 => exact Kd.R_step HR2.out (fun j hj hl => heap_setCell_other _ _ _ _ (by simp; omega))); (case c2 => exact fun j hj => ⟨by omega, fun e => by have := (hb4 j e.symm).2.2.1; omega⟩); (case c3 => intro j hj; simp at hj; omega); (case c4 => exact Kd.R_step HR.out (fun j hj hl => (heap_setCell_other _ _ _ _ (by simp; omega)).trans ((HG2.out j (by first | (simp only [World.size_alloc]; done) | (simp only [World.size_alloc]; omega)) (by omega)).trans ((Below.heap_alloc _ _ _ (by simp; omega)).trans (Below.heap_alloc _ _ _ hl))))); (case c5 => exact HB2.out.setCell (p := ⟨wr.heap.size, 3, none⟩) (by simp; omega) _); (case c6 => simp; omega); (case c7 => simp; omega); intro v1 w5 hR5 hb5 hg5; have HR5 := Lib.hid hR5; have HB5 := Lib.hid hb5; have HG5 := Lib.hid hg5; clear hR5 hb5 hg5)))
      go_roundw
      case rel =>
        have keep : ∀ j, j < w.heap.size + 2 → w5.heap[j]? = wr.heap[j]? := fun j hj =>
          (HG5.out j (by simp; omega) (fun e => by have := (hb4 j e.symm).1; omega)).trans ((heap_setCell_other _ _ _ _ (by simp; omega)).trans ((HG2.out j (by simp only [World.size_alloc]; omega) (by omega)).trans ((Below.heap_alloc _ _ _ (by simp; omega)).trans (Below.heap_alloc _ _ _ (by omega)))))
        exact ⟨k + 1, by omega, by go_num, Lib.hid (by rw [HT.out]; exact HR5.out), Lib.hid ⟨(keep _ (by omega)).trans HS.out.1, (keep _ (by omega)).trans HS.out.2.1, HB5.out⟩⟩
      case measure => simp [intOf]; omega
    · have hBk : decide (k < l0.length) = false := by simp; omega
      obtain rfl : k = l0.length := by omega
      have hR := HR.out
      rw [List.take_length] at hR
      obtain ⟨A', c', rfl, hl', hC'⟩ := Kd.R_reads hR
      clear hl' hC'
      go_wp2_with fail
      refine bodyPost_ret (v := .agg #[.slice A' l0.length c']) (results_cell_row rfl _ _ (w.heap.size + 1) 24 #[.slice A' l0.length c'] (0, 0) _ rfl (heap_setCell_same _ _ _ _ _ _ t1) Tryd.underlying24 rfl (by rw [treeSize]; rfl)) rfl ⟨_, rfl, ?_, ?_⟩
      · exact Kd.R_step hR (fun j hj hl => heap_setCell_other _ _ _ _ (by simp; omega))
      · exact HS.out.2.2.setCell (p := ⟨w.heap.size + 1, 0, none⟩) (by simp) _
end Go.Proofs.YteeojceloljcbaaDoor.H
