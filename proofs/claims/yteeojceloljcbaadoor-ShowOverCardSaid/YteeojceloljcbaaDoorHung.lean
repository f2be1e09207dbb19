/-
  hung: a tree with one more part over its whole.
-/
import Derived.Test.YteeojceloljcbaaDoorCopyO
import Derived.Test.YteeojceloljcbaaDoorHungL
set_option linter.unusedVariables false
set_option linter.unusedSimpArgs false
namespace Go.Proofs.YteeojceloljcbaaDoor.H
open Go.RowKit Go.Proofs.YteeojceloljcbaaDoorW.PrintWords Go.Proofs.YteeojceloljcbaaDoorW.PrintLast Go.Proofs.YteeojceloljcbaaDoor.P

theorem kPartE : ∀ q ∈ 45 :: k45.E, q ≠ 24 := by
  intro q hq
  have : q ∈ [45, 3] := hq
  simp at this
  omega
/-- A tree of its own. -/
def HungAns (w : World) (l1 : List Pt) (e : Ending) (w' : World) : Prop := ∃ A' c', e = .returned (.agg #[.slice A' l1.length c']) ∧ Kd.F k45 w' (fun _ => True) A' l1.length l1 ∧ l1.length ≤ c' ∧ Below w.heap.size w w'

set_option maxHeartbeats 4000000 in
set_option maxRecDepth 100000 in
theorem hung_any (A : Option Addr) (c : Nat) (l0 : List Pt) (k : Int) (s : ByteArray) (w : World) (h : Law w A c l0) (hl : largeB l0 = false) (hn : l0.length ≤ 1000) (h1 : 0 < l0.length) :
    Calls Tryd.prog 17 #[.agg #[.slice A l0.length c], .agg #[.int .i64 k, .string s, .int .i64 0, .slice none 0 0]] w (HungAns w (hungL l0 k s)) := by
  have HL := Lib.hid h
  have CO := Lib.hid (fun W (h : Law W A c l0) => copy_own A c l0 W h hl (by omega))
  have HW := Lib.hid ((((Below.refl w.heap.size w).alloc (Nat.le_refl _) (.cells #[.slice A l0.length c] 24)).alloc (by simp) (.cells #[.int .i64 k, .string s, .int .i64 0, .slice none 0 0] 45)).alloc (by simp; omega) (.cells #[.slice none 0 0] 24))
  have L0 := Lib.hid (HL.out.below HW.out)
  have hwl : IntKind.i64.wrap ((l0.length : Int) - 1) = (l0.length : Int) - 1 := IntWalk.i64_in _ (by omega)
  clear h hl
  go_enter Tryd.func17, Tryd.ntmps17
  go_wp2_with fail
  refine (CO.out _ L0.out).mono ?_
  rintro e w1 ⟨v, rfl, hR, hB⟩
  obtain ⟨A1, c1, rfl, l1, hC1⟩ := Kd.R_reads hR
  have hz := hB.size
  simp only [World.size_alloc] at hz hR
  have b0 : w1.heap[w.heap.size]? = some (.cells #[.slice A l0.length c] 24 (0, 0)) := (hB.block _ (by simp; omega)).trans ((Below.heap_alloc _ _ _ (by simp; omega)).trans ((Below.heap_alloc _ _ _ (by simp)).trans (Go.heap_alloc_new _ _)))
  have b1 : w1.heap[w.heap.size + 1]? = some (.cells #[.int .i64 k, .string s, .int .i64 0, .slice none 0 0] 45 (0, 0)) := (hB.block _ (by simp)).trans ((Below.heap_alloc _ _ _ (by simp)).trans (Go.heap_alloc2_new _ _ _))
  have b2 : w1.heap[w.heap.size + 2]? = some (.cells #[.slice none 0 0] 24 (0, 0)) := (hB.block _ (by simp)).trans (by have := Go.heap_alloc_new ((w.alloc (.cells #[.slice A l0.length c] 24)).alloc (.cells #[.int .i64 k, .string s, .int .i64 0, .slice none 0 0] 45)) (.cells #[.slice none 0 0] 24); simpa using this)
  have HB1 := Lib.hid (below_then HW.out HW.out.size hB)
  have HR1 : Hid (Kd.R k45 45 w1 (w.heap.size + 1 + 1 + 1) (fun j => w.heap.size + 1 + 1 + 1 ≤ j) (.slice A1 l0.length c1) l0) := Lib.hid (Kd.R_mono hR (fun j hj => by omega))
  have X1 := Lib.hid (And.intro b0 (And.intro b1 b2))
  have t0 : w1.cell? ⟨w.heap.size, 0, none⟩ = some (.slice A l0.length c) := (Lib.cell_of_heap b0 _).trans rfl
  have p0 : w1.cell? ⟨w.heap.size + 1, 0, none⟩ = some (.int .i64 k) := (Lib.cell_of_heap b1 _).trans rfl
  have p1 : w1.cell? ⟨w.heap.size + 1, 1, none⟩ = some (.string s) := (Lib.cell_of_heap b1 _).trans rfl
  have p2 : w1.cell? ⟨w.heap.size + 1, 2, none⟩ = some (.int .i64 0) := (Lib.cell_of_heap b1 _).trans rfl
  have p3 : w1.cell? ⟨w.heap.size + 1, 3, none⟩ = some (.slice none 0 0) := (Lib.cell_of_heap b1 _).trans rfl
  have pf : w1.frozen? ⟨w.heap.size + 1, 3, none⟩ = false := by simp [World.frozen?, b1]
  have r0 : w1.cell? ⟨w.heap.size + 2, 0, none⟩ = some (.slice none 0 0) := (Lib.cell_of_heap b2 _).trans rfl
  have rf : w1.frozen? ⟨w.heap.size + 2, 0, none⟩ = false := by simp [World.frozen?, b2]
  have hz1 : w.heap.size < w1.heap.size := by omega
  have hz2 : w.heap.size + 1 < w1.heap.size := by omega
  have hz3 : w.heap.size + 2 < w1.heap.size := by omega
  clear b0 b1 b2 hB hR hC1 HW L0 CO
  have keepW : ∀ j, j < w1.heap.size → j ≠ w.heap.size + 1 → (((w1.setCell ⟨w.heap.size + 1, 3, none⟩ (.slice (some ⟨w1.heap.size + 1, 0, none⟩) 1 1)).alloc (.cells #[.slice A1 l0.length c1] 24)).alloc (.cells #[.int .i64 ((l0.length : Int) - 1)] 3)).heap[j]? = w1.heap[j]? := fun j hj hne =>
    (Below.heap_alloc _ _ _ (by simp; omega)).trans ((Below.heap_alloc _ _ _ (by simp; exact hj)).trans (heap_setCell_other _ _ _ _ (by simp; exact hne)))
  have hbx : (((w1.setCell ⟨w.heap.size + 1, 3, none⟩ (.slice (some ⟨w1.heap.size + 1, 0, none⟩) 1 1)).alloc (.cells #[.slice A1 l0.length c1] 24)).alloc (.cells #[.int .i64 ((l0.length : Int) - 1)] 3)).heap[w1.heap.size]? = some (.cells #[.slice A1 l0.length c1] 24 (0, 0)) :=
    (Below.heap_alloc _ _ _ (by simp)).trans (by have := Go.heap_alloc_new (w1.setCell ⟨w.heap.size + 1, 3, none⟩ (.slice (some ⟨w1.heap.size + 1, 0, none⟩) 1 1)) (.cells #[.slice A1 l0.length c1] 24); simpa using this)
  have hkid : (Kd.int .i64).R 3 (((w1.setCell ⟨w.heap.size + 1, 3, none⟩ (.slice (some ⟨w1.heap.size + 1, 0, none⟩) 1 1)).alloc (.cells #[.slice A1 l0.length c1] 24)).alloc (.cells #[.int .i64 ((l0.length : Int) - 1)] 3)) w.heap.size (fun j => j = w1.heap.size + 1) (.slice (some ⟨w1.heap.size + 1, 0, none⟩) 1 1) [((l0.length - 1 : Nat) : Int)] :=
    Kd.R_of_own (by have := own_lit ((w1.setCell ⟨w.heap.size + 1, 3, none⟩ (.slice (some ⟨w1.heap.size + 1, 0, none⟩) 1 1)).alloc (.cells #[.slice A1 l0.length c1] 24)) w.heap.size 3 .i64 [(l0.length : Int) - 1] (by simp; omega) (by simp); rw [show ((l0.length - 1 : Nat) : Int) = (l0.length : Int) - 1 by omega]; simpa [nums, encs] using this) (fun k hk => by simp [Value.ownBlock] at hk; omega)
  have KW := Lib.hid keepW
  have HBX := Lib.hid hbx
  have HK := Lib.hid hkid
  clear keepW hbx hkid
  have hb4 := (Kd.R_bound HR1.out).1
  have hn1 : l0.length ≤ 1000000 := by omega
  go_wp2_with (at_builtin; go_loud (refine part_append (w0 := w) w.heap.size rfl (.tmp 15) (.tmp 17) rfl (.slice A1 l0.length c1) l0 ⟨k, s, 0, [((l0.length - 1 : Nat) : Int)]⟩ (.slice (some ⟨w1.heap.size + 1, 0, none⟩) 1 1) (fun j => w.heap.size + 1 + 1 + 1 ≤ j) (fun j => j = w1.heap.size + 1) rfl (by rw [World.size_alloc, World.size_alloc, World.size_setCell]; rfl) HK.out ?c2 ?c3 ?c4 ?c5 ?c6 hn1 ?_; (case c2 => exact fun j (hj : j = w1.heap.size + 1) => ⟨show w.heap.size + 1 + 1 + 1 ≤ j by omega, fun e => by have := (hb4 j e.symm).2.2.1; omega⟩); (case c3 => intro j hj; simp at hj; show w.heap.size + 1 + 1 + 1 ≤ j; omega); (case c4 => exact Kd.R_lower (Kd.R_step HR1.out (fun j (hj : w.heap.size + 1 + 1 + 1 ≤ j) hl => KW.out j hl (by omega))) (by omega)); (case c5 => exact ((HB1.out.setCell (p := ⟨w.heap.size + 1, 3, none⟩) (by simp) _).alloc (by simp; omega) _).alloc (by simp; omega) _); (case c6 => simp; omega); intro v1 w5 hR5 hb5 hg5; obtain ⟨A5, c5, rfl, l5, hC5⟩ := Kd.R_reads hR5; have e5 : (l0 ++ [(⟨k, s, 0, [((l0.length - 1 : Nat) : Int)]⟩ : Pt)]).length = l0.length + 1 := (by simp); rw [e5] at l5 hR5 ⊢; have HR5 := Lib.hid hR5; have HB5 := Lib.hid hb5; have x1 : w5.heap[w1.heap.size]? = some (.cells #[.slice A1 l0.length c1] 24 (0, 0)) := (hg5 _ (by simp; omega) (fun e => by have := (hb4 _ e.symm).2.2.1; omega)).trans HBX.out; have x2 : w5.heap[w.heap.size + 2]? = some (.cells #[.slice none 0 0] 24 (0, 0)) := (hg5 _ (by simp; omega) (fun e => by have := (hb4 _ e.symm).1; omega)).trans ((KW.out _ (by omega) (by omega)).trans X1.out.2.2); have X5 := Lib.hid (And.intro x1 x2); have y1 : w5.cell? ⟨w1.heap.size, 0, none⟩ = some (.slice A1 l0.length c1) := (Lib.cell_of_heap x1 _).trans rfl; have y2 : w5.cell? ⟨w.heap.size + 2, 0, none⟩ = some (.slice none 0 0) := (Lib.cell_of_heap x2 _).trans rfl; have y3 : w5.frozen? ⟨w1.heap.size, 0, none⟩ = false := (by simp [World.frozen?, x1]); have y4 : w5.frozen? ⟨w.heap.size + 2, 0, none⟩ = false := (by simp [World.frozen?, x2]); clear hC5 hR5 hb5 hg5 x1 x2 e5))
  have hR6 : Kd.R k45 45 ((w5.setCell ⟨w1.heap.size, 0, none⟩ (.slice A5 (l0.length + 1) c5)).setCell ⟨w.heap.size + 1 + 1, 0, none⟩ (.slice A5 (l0.length + 1) c5)) w.heap.size (fun j => (w.heap.size + 1 + 1 + 1 ≤ j) ∧ w.heap.size ≤ j ∧ j < w5.heap.size ∧ ∃ q, q ∈ 45 :: k45.E ∧ ∃ cells, w5.heap[j]? = some (.cells cells q (0, 0))) (.slice A5 (l0.length + 1) c5) (hungL l0 k s) :=
    Kd.R_move (Kd.R_bound HR5.out) (fun j ⟨h1, _, _, q, hq, cs, hc⟩ => (heap_setCell_other _ _ _ _ (by simp; omega)).trans (heap_setCell_other _ _ _ _ (fun e => by
      rw [e] at hc
      have := hc.symm.trans X5.out.1
      simp at this
      exact kPartE q hq this.2)))
  have e5 : (hungL l0 k s).length = l0.length + 1 := by simp [hungL]
  refine bodyPost_ret (v := .agg #[.slice A5 (l0.length + 1) c5]) (results_cell_row rfl _ _ (w.heap.size + 1 + 1) 24 #[.slice A5 (l0.length + 1) c5] (0, 0) _ rfl (heap_setCell_same _ _ _ _ _ _ ((heap_setCell_other _ _ _ _ (by simp; omega)).trans X5.out.2)) Tryd.underlying24 rfl (by rw [treeSize]; rfl)) rfl ⟨A5, c5, by rw [e5], ?_, by rw [e5]; exact l5, ?_⟩
  · rw [e5]; exact Kd.F_mono (Kd.R_F hR6) (fun _ _ => trivial)
  · exact (HB5.out.setCell (p := ⟨w1.heap.size, 0, none⟩) (by simp; omega) _).setCell (p := ⟨w.heap.size + 1 + 1, 0, none⟩) (by simp; omega) _
end Go.Proofs.YteeojceloljcbaaDoor.H
