/-
  The walks of the machine's list, relation, rel. Printed by gen_mco.py.
  The walks of the machine's rel and step. Printed by gen_mcp.py.
  The walk of the machine's step. Printed by gen_mcq.py.
  The document's Parse: what it answers; the run, plainly.
  The walk of the document's Parse.
-/
import Derived.Test.YtfiljgkcipnghaaGreatDoorMcFn
import Derived.Test.YtfiljgkcipnghaaGreatDoorLexRef
import Derived.Deep.LoopGhost
import Derived.Test.YtfiljgkcipnghaaGreatDoorParWake
import Derived.Test.YtfiljgkcipnghaaGreatDoorPlAll
set_option linter.unusedVariables false
set_option linter.unusedSimpArgs false
namespace Go.Proofs.YtfiljgkcipnghaaGreatDoor.X
open Go.RowKit
set_option maxHeartbeats 2000000 in
set_option maxRecDepth 100000 in
theorem m_ors_none_more {ts : List Tk} {B : Nat} {M : MM} {ws : List Wn} {fr : List Nat} {S : PS} {w : World} (h : MAt ts B M ws fr S w) (hT : TOK ts) (bd : MBd ws fr S) (b : Nat) (hb : b ≤ fr.length) (hm : isT ts S 4 [124, 124] = true) :
    Calls Tryz.prog 52 #[.pointer (some ⟨M.P, 0, none⟩), .agg (wCells ts (.ors none b)).toArray, .string ⟨#[124, 124]⟩, .int .i64 3] w (MVoid ts B M ws w (listM ts [124, 124] .conj (fun i => .ors (some i) b) 5 none b fr S)) := by
  obtain ⟨g, cap, c0, c1, hg, a0, a1, a2, a3, a4⟩ := h.tok
  have HH := Lib.hid h
  have hl := hT.len
  have hp := h.pos
  have hz := h.lt
  have hI : (S.pos : Int) < (ts.length : Int) := by omega
  have hwl := bd.wsl
  have HPA : Hid (placeT ts S.pos = (pk ts S).at_) := Lib.hid rfl
  have HM := Lib.hid hm
  have cf := h.cf
  have hp2 := pos_next hT h.pos (by rw [isT_kind hm]; decide)
  rw [show wCells ts (.ors none b) = wVal 2 5 (-1) [] 0 (b : Nat) from rfl]
  unfold wVal
  clear h hm
  go_enter Tryz.func52, Tryz.ntmps52
  go_wp2_with fail
  have hbx : Below w.heap.size w (w.alloc (.cells #[.int .i64 2, .int .i64 5, .int .i64 (-1), .string ⟨#[]⟩, .int .i64 0, .int .i64 b] 95)) := (Below.refl _ _).alloc (Nat.le_refl _) _
  refine (m_mark (HH.out.below hbx) hT ⟨#[124, 124]⟩).mono ?_
  rw [show (⟨#[124, 124]⟩ : ByteArray).data.toList = [124, 124] from rfl, HM.out]
  rintro e v1 ⟨rfl, hB⟩
  have H1 := Lib.hid ((HH.out.below hbx).below hB)
  have B1 := Lib.hid ((hbx.mono HH.out.bsz).trans (hB.mono (by simp; have := HH.out.bsz; omega)))
  have XW : v1.heap[w.heap.size]? = some (.cells #[.int .i64 2, .int .i64 5, .int .i64 (-1), .string ⟨#[]⟩, .int .i64 0, .int .i64 b] 95 (0, 0)) := (hB.block _ (by simp)).trans (heap_alloc_new w _)
  have X1 := Lib.hid XW
  have W0 := Lib.hid (hbx.trans (hB.mono (by simp)))
  have k0 : v1.cell? ⟨w.heap.size, 0, none⟩ = some (.int .i64 2) := (Lib.cell_of_heap XW _).trans rfl
  have k1 : v1.cell? ⟨w.heap.size, 1, none⟩ = some (.int .i64 5) := (Lib.cell_of_heap XW _).trans rfl
  have k2 : v1.cell? ⟨w.heap.size, 2, none⟩ = some (.int .i64 (-1)) := (Lib.cell_of_heap XW _).trans rfl
  have k3 : v1.cell? ⟨w.heap.size, 3, none⟩ = some (.string ⟨#[]⟩) := (Lib.cell_of_heap XW _).trans rfl
  have k4 : v1.cell? ⟨w.heap.size, 4, none⟩ = some (.int .i64 0) := (Lib.cell_of_heap XW _).trans rfl
  have k5 : v1.cell? ⟨w.heap.size, 5, none⟩ = some (.int .i64 b) := (Lib.cell_of_heap XW _).trans rfl
  have kf : ∀ j, v1.frozen? ⟨w.heap.size, j, none⟩ = false := fun j => by simp [World.frozen?, XW]
  have hzt : w.heap.size < v1.heap.size := (Array.getElem?_eq_some_iff.1 XW).1
  have hne1 : ¬ M.P = w.heap.size := by omega
  have hne2 : ¬ w.heap.size = M.P := by omega
  have d1 := H1.out.c1
  have df := H1.out.cf
  have hz1 := H1.out.lt
  clear hB XW hbx
  obtain ⟨g2, cap2, x0, x1, hg2, t0, t1, t2, t3, t4⟩ := H1.out.tok
  have hq0 : (-1 : Int) < 0 := by decide
  go_wp2_with fail
  go_region
  go_wp2_with fail
  have H2 := Lib.hid (((HH.out.below (W0.out.setCell (p := ⟨w.heap.size, 2, none⟩) (Nat.le_refl _) (.int .i64 ((pk ts S).at_ : Nat)))).onS hp2).below ((Below.refl _ _).drew))
  have B2 := Lib.hid (((B1.out.setCell (p := ⟨w.heap.size, 2, none⟩) HH.out.bsz (.int .i64 ((pk ts S).at_ : Nat))).setCell (p := ⟨M.P, 1, none⟩) HH.out.PB (.int .i64 (S.pos + 1))).drew)
  refine (m_push H2.out (.ors (some S.pos) b) (by omega)).mono ?_
  rintro e v3 ⟨rfl, q1, hA, hB⟩
  have H3 := Lib.hid hA
  have B3 := Lib.hid (B2.out.trans hB)
  clear hA hB
  go_wp2_with fail
  refine (m_push H3.out .conj (by simp; omega)).mono ?_
  rintro e v4 ⟨rfl, q2, hA, hB⟩
  have H4 := Lib.hid hA
  have B4 := Lib.hid (B3.out.trans hB)
  clear hA hB
  go_wp2
  go_end0
  exact void_ok (ws' := [.conj, .ors (some S.pos) b]) (fr' := fr) (S' := on S) (by unfold listM; rw [if_pos HM.out]; rfl) _ (by exact rfl) H4.out B4.out
set_option maxHeartbeats 2000000 in
set_option maxRecDepth 100000 in
theorem m_ors_none_done {ts : List Tk} {B : Nat} {M : MM} {ws : List Wn} {fr : List Nat} {S : PS} {w : World} (h : MAt ts B M ws fr S w) (hT : TOK ts) (bd : MBd ws fr S) (b : Nat) (hb : b ≤ fr.length) (hm : isT ts S 4 [124, 124] = false) :
    Calls Tryz.prog 52 #[.pointer (some ⟨M.P, 0, none⟩), .agg (wCells ts (.ors none b)).toArray, .string ⟨#[124, 124]⟩, .int .i64 3] w (MVoid ts B M ws w (listM ts [124, 124] .conj (fun i => .ors (some i) b) 5 none b fr S)) := by
  obtain ⟨g, cap, c0, c1, hg, a0, a1, a2, a3, a4⟩ := h.tok
  have HH := Lib.hid h
  have hl := hT.len
  have hp := h.pos
  have hz := h.lt
  have hI : (S.pos : Int) < (ts.length : Int) := by omega
  have hwl := bd.wsl
  have HPA : Hid (placeT ts S.pos = (pk ts S).at_) := Lib.hid rfl
  have HM := Lib.hid hm
  have cf := h.cf
  rw [show wCells ts (.ors none b) = wVal 2 5 (-1) [] 0 (b : Nat) from rfl]
  unfold wVal
  clear h hm
  go_enter Tryz.func52, Tryz.ntmps52
  go_wp2_with fail
  have hbx : Below w.heap.size w (w.alloc (.cells #[.int .i64 2, .int .i64 5, .int .i64 (-1), .string ⟨#[]⟩, .int .i64 0, .int .i64 b] 95)) := (Below.refl _ _).alloc (Nat.le_refl _) _
  refine (m_mark (HH.out.below hbx) hT ⟨#[124, 124]⟩).mono ?_
  rw [show (⟨#[124, 124]⟩ : ByteArray).data.toList = [124, 124] from rfl, HM.out]
  rintro e v1 ⟨rfl, hB⟩
  have H1 := Lib.hid ((HH.out.below hbx).below hB)
  have B1 := Lib.hid ((hbx.mono HH.out.bsz).trans (hB.mono (by simp; have := HH.out.bsz; omega)))
  have XW : v1.heap[w.heap.size]? = some (.cells #[.int .i64 2, .int .i64 5, .int .i64 (-1), .string ⟨#[]⟩, .int .i64 0, .int .i64 b] 95 (0, 0)) := (hB.block _ (by simp)).trans (heap_alloc_new w _)
  have X1 := Lib.hid XW
  have W0 := Lib.hid (hbx.trans (hB.mono (by simp)))
  have k0 : v1.cell? ⟨w.heap.size, 0, none⟩ = some (.int .i64 2) := (Lib.cell_of_heap XW _).trans rfl
  have k1 : v1.cell? ⟨w.heap.size, 1, none⟩ = some (.int .i64 5) := (Lib.cell_of_heap XW _).trans rfl
  have k2 : v1.cell? ⟨w.heap.size, 2, none⟩ = some (.int .i64 (-1)) := (Lib.cell_of_heap XW _).trans rfl
  have k3 : v1.cell? ⟨w.heap.size, 3, none⟩ = some (.string ⟨#[]⟩) := (Lib.cell_of_heap XW _).trans rfl
  have k4 : v1.cell? ⟨w.heap.size, 4, none⟩ = some (.int .i64 0) := (Lib.cell_of_heap XW _).trans rfl
  have k5 : v1.cell? ⟨w.heap.size, 5, none⟩ = some (.int .i64 b) := (Lib.cell_of_heap XW _).trans rfl
  have kf : ∀ j, v1.frozen? ⟨w.heap.size, j, none⟩ = false := fun j => by simp [World.frozen?, XW]
  have hzt : w.heap.size < v1.heap.size := (Array.getElem?_eq_some_iff.1 XW).1
  have hne1 : ¬ M.P = w.heap.size := by omega
  have hne2 : ¬ w.heap.size = M.P := by omega
  have d1 := H1.out.c1
  have df := H1.out.cf
  have hz1 := H1.out.lt
  clear hB XW hbx
  have hq0 : (-1 : Int) < 0 := by decide
  go_wp2
  go_end0
  exact void_ok (ws' := []) (fr' := fr) (S' := S) (by unfold listM; rw [if_neg (by rw [HM.out]; decide)]) _ (by exact rfl) H1.out B1.out
set_option maxHeartbeats 2000000 in
set_option maxRecDepth 100000 in
theorem m_ors_some_more {ts : List Tk} {B : Nat} {M : MM} {ws : List Wn} {fr : List Nat} {S : PS} {w : World} (h : MAt ts B M ws fr S w) (hT : TOK ts) (bd : MBd ws fr S) (i : Nat) (b : Nat) (hb : b ≤ fr.length) (hm : isT ts S 4 [124, 124] = true) :
    Calls Tryz.prog 52 #[.pointer (some ⟨M.P, 0, none⟩), .agg (wCells ts (.ors (some i) b)).toArray, .string ⟨#[124, 124]⟩, .int .i64 3] w (MVoid ts B M ws w (listM ts [124, 124] .conj (fun i => .ors (some i) b) 5 (some i) b fr S)) := by
  obtain ⟨g, cap, c0, c1, hg, a0, a1, a2, a3, a4⟩ := h.tok
  have HH := Lib.hid h
  have hl := hT.len
  have hp := h.pos
  have hz := h.lt
  have hI : (S.pos : Int) < (ts.length : Int) := by omega
  have hwl := bd.wsl
  have HPA : Hid (placeT ts S.pos = (pk ts S).at_) := Lib.hid rfl
  have HM := Lib.hid hm
  have cf := h.cf
  have hp2 := pos_next hT h.pos (by rw [isT_kind hm]; decide)
  have hpi : (0 : Int) ≤ ((placeT ts i : Nat) : Int) := by omega
  have hpj : ¬ ((placeT ts i : Nat) : Int) < 0 := by omega
  obtain ⟨pi, hpi2⟩ : ∃ pi, pi = placeT ts i := ⟨_, rfl⟩
  have HPI := Lib.hid hpi2
  rw [show wCells ts (.ors (some i) b) = wVal 2 5 (pi : Nat) [] 0 (b : Nat) from by rw [HPI.out]; rfl]
  rw [← hpi2] at hpi hpj
  clear hpi2
  unfold wVal
  clear h hm
  go_enter Tryz.func52, Tryz.ntmps52
  go_wp2_with fail
  have hbx : Below w.heap.size w (w.alloc (.cells #[.int .i64 2, .int .i64 5, .int .i64 pi, .string ⟨#[]⟩, .int .i64 0, .int .i64 b] 95)) := (Below.refl _ _).alloc (Nat.le_refl _) _
  refine (m_mark (HH.out.below hbx) hT ⟨#[124, 124]⟩).mono ?_
  rw [show (⟨#[124, 124]⟩ : ByteArray).data.toList = [124, 124] from rfl, HM.out]
  rintro e v1 ⟨rfl, hB⟩
  have H1 := Lib.hid ((HH.out.below hbx).below hB)
  have B1 := Lib.hid ((hbx.mono HH.out.bsz).trans (hB.mono (by simp; have := HH.out.bsz; omega)))
  have XW : v1.heap[w.heap.size]? = some (.cells #[.int .i64 2, .int .i64 5, .int .i64 pi, .string ⟨#[]⟩, .int .i64 0, .int .i64 b] 95 (0, 0)) := (hB.block _ (by simp)).trans (heap_alloc_new w _)
  have X1 := Lib.hid XW
  have W0 := Lib.hid (hbx.trans (hB.mono (by simp)))
  have k0 : v1.cell? ⟨w.heap.size, 0, none⟩ = some (.int .i64 2) := (Lib.cell_of_heap XW _).trans rfl
  have k1 : v1.cell? ⟨w.heap.size, 1, none⟩ = some (.int .i64 5) := (Lib.cell_of_heap XW _).trans rfl
  have k2 : v1.cell? ⟨w.heap.size, 2, none⟩ = some (.int .i64 pi) := (Lib.cell_of_heap XW _).trans rfl
  have k3 : v1.cell? ⟨w.heap.size, 3, none⟩ = some (.string ⟨#[]⟩) := (Lib.cell_of_heap XW _).trans rfl
  have k4 : v1.cell? ⟨w.heap.size, 4, none⟩ = some (.int .i64 0) := (Lib.cell_of_heap XW _).trans rfl
  have k5 : v1.cell? ⟨w.heap.size, 5, none⟩ = some (.int .i64 b) := (Lib.cell_of_heap XW _).trans rfl
  have kf : ∀ j, v1.frozen? ⟨w.heap.size, j, none⟩ = false := fun j => by simp [World.frozen?, XW]
  have hzt : w.heap.size < v1.heap.size := (Array.getElem?_eq_some_iff.1 XW).1
  have hne1 : ¬ M.P = w.heap.size := by omega
  have hne2 : ¬ w.heap.size = M.P := by omega
  have d1 := H1.out.c1
  have df := H1.out.cf
  have hz1 := H1.out.lt
  clear hB XW hbx
  obtain ⟨g2, cap2, x0, x1, hg2, t0, t1, t2, t3, t4⟩ := H1.out.tok
  have H2 := Lib.hid (H1.out.onS hp2)
  have B2 := Lib.hid (B1.out.setCell (p := ⟨M.P, 1, none⟩) H1.out.PB (.int .i64 (S.pos + 1)))
  have PC := Lib.hid (fun W (hW : MAt ts B M ws fr (on S) W) => m_push hW (.ors (some i) b) (by omega))
  rw [show wCells ts (.ors (some i) b) = wVal 2 5 (pi : Nat) [] 0 (b : Nat) from by rw [HPI.out]; rfl] at PC
  go_wp2_with fail
  refine (PC.out _ H2.out).mono ?_
  rintro e v3 ⟨rfl, q1, hA, hB⟩
  have H3 := Lib.hid hA
  have B3 := Lib.hid (B2.out.trans hB)
  clear hA hB
  go_wp2_with fail
  refine (m_push H3.out .conj (by simp; omega)).mono ?_
  rintro e v4 ⟨rfl, q2, hA, hB⟩
  have H4 := Lib.hid hA
  have B4 := Lib.hid (B3.out.trans hB)
  clear hA hB
  go_wp2
  go_end0
  exact void_ok (ws' := [.conj, .ors (some i) b]) (fr' := fr) (S' := on S) (by unfold listM; rw [if_pos HM.out]; rfl) _ (by exact rfl) H4.out B4.out
set_option maxHeartbeats 2000000 in
set_option maxRecDepth 100000 in
theorem m_ors_some_done {ts : List Tk} {B : Nat} {M : MM} {ws : List Wn} {fr : List Nat} {S : PS} {w : World} (h : MAt ts B M ws fr S w) (hT : TOK ts) (bd : MBd ws fr S) (i : Nat) (b : Nat) (hb : b ≤ fr.length) (hm : isT ts S 4 [124, 124] = false) :
    Calls Tryz.prog 52 #[.pointer (some ⟨M.P, 0, none⟩), .agg (wCells ts (.ors (some i) b)).toArray, .string ⟨#[124, 124]⟩, .int .i64 3] w (MVoid ts B M ws w (listM ts [124, 124] .conj (fun i => .ors (some i) b) 5 (some i) b fr S)) := by
  obtain ⟨g, cap, c0, c1, hg, a0, a1, a2, a3, a4⟩ := h.tok
  have HH := Lib.hid h
  have hl := hT.len
  have hp := h.pos
  have hz := h.lt
  have hI : (S.pos : Int) < (ts.length : Int) := by omega
  have hwl := bd.wsl
  have HPA : Hid (placeT ts S.pos = (pk ts S).at_) := Lib.hid rfl
  have HM := Lib.hid hm
  have cf := h.cf
  have hpi : (0 : Int) ≤ ((placeT ts i : Nat) : Int) := by omega
  have hpj : ¬ ((placeT ts i : Nat) : Int) < 0 := by omega
  obtain ⟨pi, hpi2⟩ : ∃ pi, pi = placeT ts i := ⟨_, rfl⟩
  have HPI := Lib.hid hpi2
  rw [show wCells ts (.ors (some i) b) = wVal 2 5 (pi : Nat) [] 0 (b : Nat) from by rw [HPI.out]; rfl]
  rw [← hpi2] at hpi hpj
  clear hpi2
  unfold wVal
  clear h hm
  go_enter Tryz.func52, Tryz.ntmps52
  go_wp2_with fail
  have hbx : Below w.heap.size w (w.alloc (.cells #[.int .i64 2, .int .i64 5, .int .i64 pi, .string ⟨#[]⟩, .int .i64 0, .int .i64 b] 95)) := (Below.refl _ _).alloc (Nat.le_refl _) _
  refine (m_mark (HH.out.below hbx) hT ⟨#[124, 124]⟩).mono ?_
  rw [show (⟨#[124, 124]⟩ : ByteArray).data.toList = [124, 124] from rfl, HM.out]
  rintro e v1 ⟨rfl, hB⟩
  have H1 := Lib.hid ((HH.out.below hbx).below hB)
  have B1 := Lib.hid ((hbx.mono HH.out.bsz).trans (hB.mono (by simp; have := HH.out.bsz; omega)))
  have XW : v1.heap[w.heap.size]? = some (.cells #[.int .i64 2, .int .i64 5, .int .i64 pi, .string ⟨#[]⟩, .int .i64 0, .int .i64 b] 95 (0, 0)) := (hB.block _ (by simp)).trans (heap_alloc_new w _)
  have X1 := Lib.hid XW
  have W0 := Lib.hid (hbx.trans (hB.mono (by simp)))
  have k0 : v1.cell? ⟨w.heap.size, 0, none⟩ = some (.int .i64 2) := (Lib.cell_of_heap XW _).trans rfl
  have k1 : v1.cell? ⟨w.heap.size, 1, none⟩ = some (.int .i64 5) := (Lib.cell_of_heap XW _).trans rfl
  have k2 : v1.cell? ⟨w.heap.size, 2, none⟩ = some (.int .i64 pi) := (Lib.cell_of_heap XW _).trans rfl
  have k3 : v1.cell? ⟨w.heap.size, 3, none⟩ = some (.string ⟨#[]⟩) := (Lib.cell_of_heap XW _).trans rfl
  have k4 : v1.cell? ⟨w.heap.size, 4, none⟩ = some (.int .i64 0) := (Lib.cell_of_heap XW _).trans rfl
  have k5 : v1.cell? ⟨w.heap.size, 5, none⟩ = some (.int .i64 b) := (Lib.cell_of_heap XW _).trans rfl
  have kf : ∀ j, v1.frozen? ⟨w.heap.size, j, none⟩ = false := fun j => by simp [World.frozen?, XW]
  have hzt : w.heap.size < v1.heap.size := (Array.getElem?_eq_some_iff.1 XW).1
  have hne1 : ¬ M.P = w.heap.size := by omega
  have hne2 : ¬ w.heap.size = M.P := by omega
  have d1 := H1.out.c1
  have df := H1.out.cf
  have hz1 := H1.out.lt
  clear hB XW hbx
  have LC := Lib.hid (fun W (hW : MAt ts B M ws fr S W) => m_lay' hW bd 5 [] 0 i b hb)
  rw [← HPI.out] at LC
  go_wp2_with fail
  refine (LC.out _ H1.out).mono ?_
  intro e wl hV
  obtain rfl := void_ret hV
  have VL := Lib.hid hV
  clear hV
  go_wp2
  go_end0
  exact void_last VL.out (by unfold listM; rw [if_neg (by rw [HM.out]; decide)]) rfl B1.out
set_option maxHeartbeats 2000000 in
set_option maxRecDepth 100000 in
theorem m_ands_none_more {ts : List Tk} {B : Nat} {M : MM} {ws : List Wn} {fr : List Nat} {S : PS} {w : World} (h : MAt ts B M ws fr S w) (hT : TOK ts) (bd : MBd ws fr S) (b : Nat) (hb : b ≤ fr.length) (hm : isT ts S 4 [38, 38] = true) :
    Calls Tryz.prog 52 #[.pointer (some ⟨M.P, 0, none⟩), .agg (wCells ts (.ands none b)).toArray, .string ⟨#[38, 38]⟩, .int .i64 5] w (MVoid ts B M ws w (listM ts [38, 38] .unit (fun i => .ands (some i) b) 4 none b fr S)) := by
  obtain ⟨g, cap, c0, c1, hg, a0, a1, a2, a3, a4⟩ := h.tok
  have HH := Lib.hid h
  have hl := hT.len
  have hp := h.pos
  have hz := h.lt
  have hI : (S.pos : Int) < (ts.length : Int) := by omega
  have hwl := bd.wsl
  have HPA : Hid (placeT ts S.pos = (pk ts S).at_) := Lib.hid rfl
  have HM := Lib.hid hm
  have cf := h.cf
  have hp2 := pos_next hT h.pos (by rw [isT_kind hm]; decide)
  rw [show wCells ts (.ands none b) = wVal 4 4 (-1) [] 0 (b : Nat) from rfl]
  unfold wVal
  clear h hm
  go_enter Tryz.func52, Tryz.ntmps52
  go_wp2_with fail
  have hbx : Below w.heap.size w (w.alloc (.cells #[.int .i64 4, .int .i64 4, .int .i64 (-1), .string ⟨#[]⟩, .int .i64 0, .int .i64 b] 95)) := (Below.refl _ _).alloc (Nat.le_refl _) _
  refine (m_mark (HH.out.below hbx) hT ⟨#[38, 38]⟩).mono ?_
  rw [show (⟨#[38, 38]⟩ : ByteArray).data.toList = [38, 38] from rfl, HM.out]
  rintro e v1 ⟨rfl, hB⟩
  have H1 := Lib.hid ((HH.out.below hbx).below hB)
  have B1 := Lib.hid ((hbx.mono HH.out.bsz).trans (hB.mono (by simp; have := HH.out.bsz; omega)))
  have XW : v1.heap[w.heap.size]? = some (.cells #[.int .i64 4, .int .i64 4, .int .i64 (-1), .string ⟨#[]⟩, .int .i64 0, .int .i64 b] 95 (0, 0)) := (hB.block _ (by simp)).trans (heap_alloc_new w _)
  have X1 := Lib.hid XW
  have W0 := Lib.hid (hbx.trans (hB.mono (by simp)))
  have k0 : v1.cell? ⟨w.heap.size, 0, none⟩ = some (.int .i64 4) := (Lib.cell_of_heap XW _).trans rfl
  have k1 : v1.cell? ⟨w.heap.size, 1, none⟩ = some (.int .i64 4) := (Lib.cell_of_heap XW _).trans rfl
  have k2 : v1.cell? ⟨w.heap.size, 2, none⟩ = some (.int .i64 (-1)) := (Lib.cell_of_heap XW _).trans rfl
  have k3 : v1.cell? ⟨w.heap.size, 3, none⟩ = some (.string ⟨#[]⟩) := (Lib.cell_of_heap XW _).trans rfl
  have k4 : v1.cell? ⟨w.heap.size, 4, none⟩ = some (.int .i64 0) := (Lib.cell_of_heap XW _).trans rfl
  have k5 : v1.cell? ⟨w.heap.size, 5, none⟩ = some (.int .i64 b) := (Lib.cell_of_heap XW _).trans rfl
  have kf : ∀ j, v1.frozen? ⟨w.heap.size, j, none⟩ = false := fun j => by simp [World.frozen?, XW]
  have hzt : w.heap.size < v1.heap.size := (Array.getElem?_eq_some_iff.1 XW).1
  have hne1 : ¬ M.P = w.heap.size := by omega
  have hne2 : ¬ w.heap.size = M.P := by omega
  have d1 := H1.out.c1
  have df := H1.out.cf
  have hz1 := H1.out.lt
  clear hB XW hbx
  obtain ⟨g2, cap2, x0, x1, hg2, t0, t1, t2, t3, t4⟩ := H1.out.tok
  have hq0 : (-1 : Int) < 0 := by decide
  go_wp2_with fail
  go_region
  go_wp2_with fail
  have H2 := Lib.hid (((HH.out.below (W0.out.setCell (p := ⟨w.heap.size, 2, none⟩) (Nat.le_refl _) (.int .i64 ((pk ts S).at_ : Nat)))).onS hp2).below ((Below.refl _ _).drew))
  have B2 := Lib.hid (((B1.out.setCell (p := ⟨w.heap.size, 2, none⟩) HH.out.bsz (.int .i64 ((pk ts S).at_ : Nat))).setCell (p := ⟨M.P, 1, none⟩) HH.out.PB (.int .i64 (S.pos + 1))).drew)
  refine (m_push H2.out (.ands (some S.pos) b) (by omega)).mono ?_
  rintro e v3 ⟨rfl, q1, hA, hB⟩
  have H3 := Lib.hid hA
  have B3 := Lib.hid (B2.out.trans hB)
  clear hA hB
  go_wp2_with fail
  refine (m_push H3.out .unit (by simp; omega)).mono ?_
  rintro e v4 ⟨rfl, q2, hA, hB⟩
  have H4 := Lib.hid hA
  have B4 := Lib.hid (B3.out.trans hB)
  clear hA hB
  go_wp2
  go_end0
  exact void_ok (ws' := [.unit, .ands (some S.pos) b]) (fr' := fr) (S' := on S) (by unfold listM; rw [if_pos HM.out]; rfl) _ (by exact rfl) H4.out B4.out
set_option maxHeartbeats 2000000 in
set_option maxRecDepth 100000 in
theorem m_ands_none_done {ts : List Tk} {B : Nat} {M : MM} {ws : List Wn} {fr : List Nat} {S : PS} {w : World} (h : MAt ts B M ws fr S w) (hT : TOK ts) (bd : MBd ws fr S) (b : Nat) (hb : b ≤ fr.length) (hm : isT ts S 4 [38, 38] = false) :
    Calls Tryz.prog 52 #[.pointer (some ⟨M.P, 0, none⟩), .agg (wCells ts (.ands none b)).toArray, .string ⟨#[38, 38]⟩, .int .i64 5] w (MVoid ts B M ws w (listM ts [38, 38] .unit (fun i => .ands (some i) b) 4 none b fr S)) := by
  obtain ⟨g, cap, c0, c1, hg, a0, a1, a2, a3, a4⟩ := h.tok
  have HH := Lib.hid h
  have hl := hT.len
  have hp := h.pos
  have hz := h.lt
  have hI : (S.pos : Int) < (ts.length : Int) := by omega
  have hwl := bd.wsl
  have HPA : Hid (placeT ts S.pos = (pk ts S).at_) := Lib.hid rfl
  have HM := Lib.hid hm
  have cf := h.cf
  rw [show wCells ts (.ands none b) = wVal 4 4 (-1) [] 0 (b : Nat) from rfl]
  unfold wVal
  clear h hm
  go_enter Tryz.func52, Tryz.ntmps52
  go_wp2_with fail
  have hbx : Below w.heap.size w (w.alloc (.cells #[.int .i64 4, .int .i64 4, .int .i64 (-1), .string ⟨#[]⟩, .int .i64 0, .int .i64 b] 95)) := (Below.refl _ _).alloc (Nat.le_refl _) _
  refine (m_mark (HH.out.below hbx) hT ⟨#[38, 38]⟩).mono ?_
  rw [show (⟨#[38, 38]⟩ : ByteArray).data.toList = [38, 38] from rfl, HM.out]
  rintro e v1 ⟨rfl, hB⟩
  have H1 := Lib.hid ((HH.out.below hbx).below hB)
  have B1 := Lib.hid ((hbx.mono HH.out.bsz).trans (hB.mono (by simp; have := HH.out.bsz; omega)))
  have XW : v1.heap[w.heap.size]? = some (.cells #[.int .i64 4, .int .i64 4, .int .i64 (-1), .string ⟨#[]⟩, .int .i64 0, .int .i64 b] 95 (0, 0)) := (hB.block _ (by simp)).trans (heap_alloc_new w _)
  have X1 := Lib.hid XW
  have W0 := Lib.hid (hbx.trans (hB.mono (by simp)))
  have k0 : v1.cell? ⟨w.heap.size, 0, none⟩ = some (.int .i64 4) := (Lib.cell_of_heap XW _).trans rfl
  have k1 : v1.cell? ⟨w.heap.size, 1, none⟩ = some (.int .i64 4) := (Lib.cell_of_heap XW _).trans rfl
  have k2 : v1.cell? ⟨w.heap.size, 2, none⟩ = some (.int .i64 (-1)) := (Lib.cell_of_heap XW _).trans rfl
  have k3 : v1.cell? ⟨w.heap.size, 3, none⟩ = some (.string ⟨#[]⟩) := (Lib.cell_of_heap XW _).trans rfl
  have k4 : v1.cell? ⟨w.heap.size, 4, none⟩ = some (.int .i64 0) := (Lib.cell_of_heap XW _).trans rfl
  have k5 : v1.cell? ⟨w.heap.size, 5, none⟩ = some (.int .i64 b) := (Lib.cell_of_heap XW _).trans rfl
  have kf : ∀ j, v1.frozen? ⟨w.heap.size, j, none⟩ = false := fun j => by simp [World.frozen?, XW]
  have hzt : w.heap.size < v1.heap.size := (Array.getElem?_eq_some_iff.1 XW).1
  have hne1 : ¬ M.P = w.heap.size := by omega
  have hne2 : ¬ w.heap.size = M.P := by omega
  have d1 := H1.out.c1
  have df := H1.out.cf
  have hz1 := H1.out.lt
  clear hB XW hbx
  have hq0 : (-1 : Int) < 0 := by decide
  go_wp2
  go_end0
  exact void_ok (ws' := []) (fr' := fr) (S' := S) (by unfold listM; rw [if_neg (by rw [HM.out]; decide)]) _ (by exact rfl) H1.out B1.out
set_option maxHeartbeats 2000000 in
set_option maxRecDepth 100000 in
theorem m_ands_some_more {ts : List Tk} {B : Nat} {M : MM} {ws : List Wn} {fr : List Nat} {S : PS} {w : World} (h : MAt ts B M ws fr S w) (hT : TOK ts) (bd : MBd ws fr S) (i : Nat) (b : Nat) (hb : b ≤ fr.length) (hm : isT ts S 4 [38, 38] = true) :
    Calls Tryz.prog 52 #[.pointer (some ⟨M.P, 0, none⟩), .agg (wCells ts (.ands (some i) b)).toArray, .string ⟨#[38, 38]⟩, .int .i64 5] w (MVoid ts B M ws w (listM ts [38, 38] .unit (fun i => .ands (some i) b) 4 (some i) b fr S)) := by
  obtain ⟨g, cap, c0, c1, hg, a0, a1, a2, a3, a4⟩ := h.tok
  have HH := Lib.hid h
  have hl := hT.len
  have hp := h.pos
  have hz := h.lt
  have hI : (S.pos : Int) < (ts.length : Int) := by omega
  have hwl := bd.wsl
  have HPA : Hid (placeT ts S.pos = (pk ts S).at_) := Lib.hid rfl
  have HM := Lib.hid hm
  have cf := h.cf
  have hp2 := pos_next hT h.pos (by rw [isT_kind hm]; decide)
  have hpi : (0 : Int) ≤ ((placeT ts i : Nat) : Int) := by omega
  have hpj : ¬ ((placeT ts i : Nat) : Int) < 0 := by omega
  obtain ⟨pi, hpi2⟩ : ∃ pi, pi = placeT ts i := ⟨_, rfl⟩
  have HPI := Lib.hid hpi2
  rw [show wCells ts (.ands (some i) b) = wVal 4 4 (pi : Nat) [] 0 (b : Nat) from by rw [HPI.out]; rfl]
  rw [← hpi2] at hpi hpj
  clear hpi2
  unfold wVal
  clear h hm
  go_enter Tryz.func52, Tryz.ntmps52
  go_wp2_with fail
  have hbx : Below w.heap.size w (w.alloc (.cells #[.int .i64 4, .int .i64 4, .int .i64 pi, .string ⟨#[]⟩, .int .i64 0, .int .i64 b] 95)) := (Below.refl _ _).alloc (Nat.le_refl _) _
  refine (m_mark (HH.out.below hbx) hT ⟨#[38, 38]⟩).mono ?_
  rw [show (⟨#[38, 38]⟩ : ByteArray).data.toList = [38, 38] from rfl, HM.out]
  rintro e v1 ⟨rfl, hB⟩
  have H1 := Lib.hid ((HH.out.below hbx).below hB)
  have B1 := Lib.hid ((hbx.mono HH.out.bsz).trans (hB.mono (by simp; have := HH.out.bsz; omega)))
  have XW : v1.heap[w.heap.size]? = some (.cells #[.int .i64 4, .int .i64 4, .int .i64 pi, .string ⟨#[]⟩, .int .i64 0, .int .i64 b] 95 (0, 0)) := (hB.block _ (by simp)).trans (heap_alloc_new w _)
  have X1 := Lib.hid XW
  have W0 := Lib.hid (hbx.trans (hB.mono (by simp)))
  have k0 : v1.cell? ⟨w.heap.size, 0, none⟩ = some (.int .i64 4) := (Lib.cell_of_heap XW _).trans rfl
  have k1 : v1.cell? ⟨w.heap.size, 1, none⟩ = some (.int .i64 4) := (Lib.cell_of_heap XW _).trans rfl
  have k2 : v1.cell? ⟨w.heap.size, 2, none⟩ = some (.int .i64 pi) := (Lib.cell_of_heap XW _).trans rfl
  have k3 : v1.cell? ⟨w.heap.size, 3, none⟩ = some (.string ⟨#[]⟩) := (Lib.cell_of_heap XW _).trans rfl
  have k4 : v1.cell? ⟨w.heap.size, 4, none⟩ = some (.int .i64 0) := (Lib.cell_of_heap XW _).trans rfl
  have k5 : v1.cell? ⟨w.heap.size, 5, none⟩ = some (.int .i64 b) := (Lib.cell_of_heap XW _).trans rfl
  have kf : ∀ j, v1.frozen? ⟨w.heap.size, j, none⟩ = false := fun j => by simp [World.frozen?, XW]
  have hzt : w.heap.size < v1.heap.size := (Array.getElem?_eq_some_iff.1 XW).1
  have hne1 : ¬ M.P = w.heap.size := by omega
  have hne2 : ¬ w.heap.size = M.P := by omega
  have d1 := H1.out.c1
  have df := H1.out.cf
  have hz1 := H1.out.lt
  clear hB XW hbx
  obtain ⟨g2, cap2, x0, x1, hg2, t0, t1, t2, t3, t4⟩ := H1.out.tok
  have H2 := Lib.hid (H1.out.onS hp2)
  have B2 := Lib.hid (B1.out.setCell (p := ⟨M.P, 1, none⟩) H1.out.PB (.int .i64 (S.pos + 1)))
  have PC := Lib.hid (fun W (hW : MAt ts B M ws fr (on S) W) => m_push hW (.ands (some i) b) (by omega))
  rw [show wCells ts (.ands (some i) b) = wVal 4 4 (pi : Nat) [] 0 (b : Nat) from by rw [HPI.out]; rfl] at PC
  go_wp2_with fail
  refine (PC.out _ H2.out).mono ?_
  rintro e v3 ⟨rfl, q1, hA, hB⟩
  have H3 := Lib.hid hA
  have B3 := Lib.hid (B2.out.trans hB)
  clear hA hB
  go_wp2_with fail
  refine (m_push H3.out .unit (by simp; omega)).mono ?_
  rintro e v4 ⟨rfl, q2, hA, hB⟩
  have H4 := Lib.hid hA
  have B4 := Lib.hid (B3.out.trans hB)
  clear hA hB
  go_wp2
  go_end0
  exact void_ok (ws' := [.unit, .ands (some i) b]) (fr' := fr) (S' := on S) (by unfold listM; rw [if_pos HM.out]; rfl) _ (by exact rfl) H4.out B4.out
set_option maxHeartbeats 2000000 in
set_option maxRecDepth 100000 in
theorem m_ands_some_done {ts : List Tk} {B : Nat} {M : MM} {ws : List Wn} {fr : List Nat} {S : PS} {w : World} (h : MAt ts B M ws fr S w) (hT : TOK ts) (bd : MBd ws fr S) (i : Nat) (b : Nat) (hb : b ≤ fr.length) (hm : isT ts S 4 [38, 38] = false) :
    Calls Tryz.prog 52 #[.pointer (some ⟨M.P, 0, none⟩), .agg (wCells ts (.ands (some i) b)).toArray, .string ⟨#[38, 38]⟩, .int .i64 5] w (MVoid ts B M ws w (listM ts [38, 38] .unit (fun i => .ands (some i) b) 4 (some i) b fr S)) := by
  obtain ⟨g, cap, c0, c1, hg, a0, a1, a2, a3, a4⟩ := h.tok
  have HH := Lib.hid h
  have hl := hT.len
  have hp := h.pos
  have hz := h.lt
  have hI : (S.pos : Int) < (ts.length : Int) := by omega
  have hwl := bd.wsl
  have HPA : Hid (placeT ts S.pos = (pk ts S).at_) := Lib.hid rfl
  have HM := Lib.hid hm
  have cf := h.cf
  have hpi : (0 : Int) ≤ ((placeT ts i : Nat) : Int) := by omega
  have hpj : ¬ ((placeT ts i : Nat) : Int) < 0 := by omega
  obtain ⟨pi, hpi2⟩ : ∃ pi, pi = placeT ts i := ⟨_, rfl⟩
  have HPI := Lib.hid hpi2
  rw [show wCells ts (.ands (some i) b) = wVal 4 4 (pi : Nat) [] 0 (b : Nat) from by rw [HPI.out]; rfl]
  rw [← hpi2] at hpi hpj
  clear hpi2
  unfold wVal
  clear h hm
  go_enter Tryz.func52, Tryz.ntmps52
  go_wp2_with fail
  have hbx : Below w.heap.size w (w.alloc (.cells #[.int .i64 4, .int .i64 4, .int .i64 pi, .string ⟨#[]⟩, .int .i64 0, .int .i64 b] 95)) := (Below.refl _ _).alloc (Nat.le_refl _) _
  refine (m_mark (HH.out.below hbx) hT ⟨#[38, 38]⟩).mono ?_
  rw [show (⟨#[38, 38]⟩ : ByteArray).data.toList = [38, 38] from rfl, HM.out]
  rintro e v1 ⟨rfl, hB⟩
  have H1 := Lib.hid ((HH.out.below hbx).below hB)
  have B1 := Lib.hid ((hbx.mono HH.out.bsz).trans (hB.mono (by simp; have := HH.out.bsz; omega)))
  have XW : v1.heap[w.heap.size]? = some (.cells #[.int .i64 4, .int .i64 4, .int .i64 pi, .string ⟨#[]⟩, .int .i64 0, .int .i64 b] 95 (0, 0)) := (hB.block _ (by simp)).trans (heap_alloc_new w _)
  have X1 := Lib.hid XW
  have W0 := Lib.hid (hbx.trans (hB.mono (by simp)))
  have k0 : v1.cell? ⟨w.heap.size, 0, none⟩ = some (.int .i64 4) := (Lib.cell_of_heap XW _).trans rfl
  have k1 : v1.cell? ⟨w.heap.size, 1, none⟩ = some (.int .i64 4) := (Lib.cell_of_heap XW _).trans rfl
  have k2 : v1.cell? ⟨w.heap.size, 2, none⟩ = some (.int .i64 pi) := (Lib.cell_of_heap XW _).trans rfl
  have k3 : v1.cell? ⟨w.heap.size, 3, none⟩ = some (.string ⟨#[]⟩) := (Lib.cell_of_heap XW _).trans rfl
  have k4 : v1.cell? ⟨w.heap.size, 4, none⟩ = some (.int .i64 0) := (Lib.cell_of_heap XW _).trans rfl
  have k5 : v1.cell? ⟨w.heap.size, 5, none⟩ = some (.int .i64 b) := (Lib.cell_of_heap XW _).trans rfl
  have kf : ∀ j, v1.frozen? ⟨w.heap.size, j, none⟩ = false := fun j => by simp [World.frozen?, XW]
  have hzt : w.heap.size < v1.heap.size := (Array.getElem?_eq_some_iff.1 XW).1
  have hne1 : ¬ M.P = w.heap.size := by omega
  have hne2 : ¬ w.heap.size = M.P := by omega
  have d1 := H1.out.c1
  have df := H1.out.cf
  have hz1 := H1.out.lt
  clear hB XW hbx
  have LC := Lib.hid (fun W (hW : MAt ts B M ws fr S W) => m_lay' hW bd 4 [] 0 i b hb)
  rw [← HPI.out] at LC
  go_wp2_with fail
  refine (LC.out _ H1.out).mono ?_
  intro e wl hV
  obtain rfl := void_ret hV
  have VL := Lib.hid hV
  clear hV
  go_wp2
  go_end0
  exact void_last VL.out (by unfold listM; rw [if_neg (by rw [HM.out]; decide)]) rfl B1.out
/-- The number of a comparison's mark. -/
def relN (t : Tk) : Int := if t.kind = 4 then (if t.text = [61, 61] then 1 else if t.text = [33, 61] then 2 else if t.text = [60] then 3 else if t.text = [60, 61] then 4 else if t.text = [62] then 5 else if t.text = [62, 61] then 6 else 0) else 0
set_option maxHeartbeats 2000000 in
set_option maxRecDepth 100000 in
theorem m_relation_no {w : World} (t : Tk) (h : ¬ t.kind = 4) :
    Calls Tryz.prog 84 #[.agg #[.int .i64 t.kind, .string ⟨t.text.toArray⟩, .int .i64 t.num, .int .i64 (t.at_ : Nat), .int .i64 (t.end_ : Nat)]] w fun e w' => e = .returned (.int .i64 0) ∧ Below w.heap.size w w' := by
  have e4 : (t.kind == 4) = false := by rw [beq_eq_false_iff_ne]; exact h
  clear h
  go_enter Tryz.func84, Tryz.ntmps84
  go_wp2
  go_ret
  exact ⟨rfl, (Below.refl _ _).alloc (Nat.le_refl _) _⟩
set_option maxHeartbeats 2000000 in
set_option maxRecDepth 100000 in
theorem m_relation_1 {w : World} (t : Tk) (h : t.kind = 4) (hx : t.text = [61, 61]) :
    Calls Tryz.prog 84 #[.agg #[.int .i64 t.kind, .string ⟨t.text.toArray⟩, .int .i64 t.num, .int .i64 (t.at_ : Nat), .int .i64 (t.end_ : Nat)]] w fun e w' => e = .returned (.int .i64 1) ∧ Below w.heap.size w w' := by
  rw [h, hx]
  clear h hx
  go_enter Tryz.func84, Tryz.ntmps84
  go_wp2
  go_ret
  exact ⟨rfl, (Below.refl _ _).alloc (Nat.le_refl _) _⟩
set_option maxHeartbeats 2000000 in
set_option maxRecDepth 100000 in
theorem m_relation_2 {w : World} (t : Tk) (h : t.kind = 4) (hx : t.text = [33, 61]) :
    Calls Tryz.prog 84 #[.agg #[.int .i64 t.kind, .string ⟨t.text.toArray⟩, .int .i64 t.num, .int .i64 (t.at_ : Nat), .int .i64 (t.end_ : Nat)]] w fun e w' => e = .returned (.int .i64 2) ∧ Below w.heap.size w w' := by
  rw [h, hx]
  clear h hx
  go_enter Tryz.func84, Tryz.ntmps84
  go_wp2
  go_ret
  exact ⟨rfl, (Below.refl _ _).alloc (Nat.le_refl _) _⟩
set_option maxHeartbeats 2000000 in
set_option maxRecDepth 100000 in
theorem m_relation_3 {w : World} (t : Tk) (h : t.kind = 4) (hx : t.text = [60]) :
    Calls Tryz.prog 84 #[.agg #[.int .i64 t.kind, .string ⟨t.text.toArray⟩, .int .i64 t.num, .int .i64 (t.at_ : Nat), .int .i64 (t.end_ : Nat)]] w fun e w' => e = .returned (.int .i64 3) ∧ Below w.heap.size w w' := by
  rw [h, hx]
  clear h hx
  go_enter Tryz.func84, Tryz.ntmps84
  go_wp2
  go_ret
  exact ⟨rfl, (Below.refl _ _).alloc (Nat.le_refl _) _⟩
set_option maxHeartbeats 2000000 in
set_option maxRecDepth 100000 in
theorem m_relation_4 {w : World} (t : Tk) (h : t.kind = 4) (hx : t.text = [60, 61]) :
    Calls Tryz.prog 84 #[.agg #[.int .i64 t.kind, .string ⟨t.text.toArray⟩, .int .i64 t.num, .int .i64 (t.at_ : Nat), .int .i64 (t.end_ : Nat)]] w fun e w' => e = .returned (.int .i64 4) ∧ Below w.heap.size w w' := by
  rw [h, hx]
  clear h hx
  go_enter Tryz.func84, Tryz.ntmps84
  go_wp2
  go_ret
  exact ⟨rfl, (Below.refl _ _).alloc (Nat.le_refl _) _⟩
set_option maxHeartbeats 2000000 in
set_option maxRecDepth 100000 in
theorem m_relation_5 {w : World} (t : Tk) (h : t.kind = 4) (hx : t.text = [62]) :
    Calls Tryz.prog 84 #[.agg #[.int .i64 t.kind, .string ⟨t.text.toArray⟩, .int .i64 t.num, .int .i64 (t.at_ : Nat), .int .i64 (t.end_ : Nat)]] w fun e w' => e = .returned (.int .i64 5) ∧ Below w.heap.size w w' := by
  rw [h, hx]
  clear h hx
  go_enter Tryz.func84, Tryz.ntmps84
  go_wp2
  go_ret
  exact ⟨rfl, (Below.refl _ _).alloc (Nat.le_refl _) _⟩
set_option maxHeartbeats 2000000 in
set_option maxRecDepth 100000 in
theorem m_relation_6 {w : World} (t : Tk) (h : t.kind = 4) (hx : t.text = [62, 61]) :
    Calls Tryz.prog 84 #[.agg #[.int .i64 t.kind, .string ⟨t.text.toArray⟩, .int .i64 t.num, .int .i64 (t.at_ : Nat), .int .i64 (t.end_ : Nat)]] w fun e w' => e = .returned (.int .i64 6) ∧ Below w.heap.size w w' := by
  rw [h, hx]
  clear h hx
  go_enter Tryz.func84, Tryz.ntmps84
  go_wp2
  go_ret
  exact ⟨rfl, (Below.refl _ _).alloc (Nat.le_refl _) _⟩
set_option maxHeartbeats 2000000 in
set_option maxRecDepth 100000 in
theorem m_relation_else {w : World} (t : Tk) (h : t.kind = 4) (n0 : ¬ t.text = [61, 61]) (n1 : ¬ t.text = [33, 61]) (n2 : ¬ t.text = [60]) (n3 : ¬ t.text = [60, 61]) (n4 : ¬ t.text = [62]) (n5 : ¬ t.text = [62, 61]) :
    Calls Tryz.prog 84 #[.agg #[.int .i64 t.kind, .string ⟨t.text.toArray⟩, .int .i64 t.num, .int .i64 (t.at_ : Nat), .int .i64 (t.end_ : Nat)]] w fun e w' => e = .returned (.int .i64 0) ∧ Below w.heap.size w w' := by
  rw [h]
  clear h
  have e0 : (t.text == [61, 61]) = false := by rw [beq_eq_false_iff_ne]; exact n0
  have e1 : (t.text == [33, 61]) = false := by rw [beq_eq_false_iff_ne]; exact n1
  have e2 : (t.text == [60]) = false := by rw [beq_eq_false_iff_ne]; exact n2
  have e3 : (t.text == [60, 61]) = false := by rw [beq_eq_false_iff_ne]; exact n3
  have e4 : (t.text == [62]) = false := by rw [beq_eq_false_iff_ne]; exact n4
  have e5 : (t.text == [62, 61]) = false := by rw [beq_eq_false_iff_ne]; exact n5
  go_enter Tryz.func84, Tryz.ntmps84
  go_wp2
  go_ret
  exact ⟨rfl, (Below.refl _ _).alloc (Nat.le_refl _) _⟩
theorem m_relation {w : World} (t : Tk) :
    Calls Tryz.prog 84 #[.agg #[.int .i64 t.kind, .string ⟨t.text.toArray⟩, .int .i64 t.num, .int .i64 (t.at_ : Nat), .int .i64 (t.end_ : Nat)]] w fun e w' => e = .returned (.int .i64 (relN t)) ∧ Below w.heap.size w w' := by
  unfold relN
  by_cases h : t.kind = 4
  · rw [if_pos h]
    by_cases n0 : t.text = [61, 61]
    · rw [if_pos n0]; exact m_relation_1 t h n0
    by_cases n1 : t.text = [33, 61]
    · rw [if_neg n0, if_pos n1]; exact m_relation_2 t h n1
    by_cases n2 : t.text = [60]
    · rw [if_neg n0, if_neg n1, if_pos n2]; exact m_relation_3 t h n2
    by_cases n3 : t.text = [60, 61]
    · rw [if_neg n0, if_neg n1, if_neg n2, if_pos n3]; exact m_relation_4 t h n3
    by_cases n4 : t.text = [62]
    · rw [if_neg n0, if_neg n1, if_neg n2, if_neg n3, if_pos n4]; exact m_relation_5 t h n4
    by_cases n5 : t.text = [62, 61]
    · rw [if_neg n0, if_neg n1, if_neg n2, if_neg n3, if_neg n4, if_pos n5]; exact m_relation_6 t h n5
    rw [if_neg n0, if_neg n1, if_neg n2, if_neg n3, if_neg n4, if_neg n5]
    exact m_relation_else t h n0 n1 n2 n3 n4 n5
  · rw [if_neg h]; exact m_relation_no t h
theorem rel_pos {ts : List Tk} {S : PS} (h : 0 < relN (pk ts S)) : relationP ts S = .ok ((6, relN (pk ts S)), on S) ∧ (pk ts S).kind = 4 := by
  unfold relN at h ⊢
  by_cases h4 : (pk ts S).kind = 4
  · rw [if_pos h4] at h ⊢
    refine ⟨?_, h4⟩
    unfold relationP
    by_cases n0 : (pk ts S).text = [61, 61]
    · rw [if_pos n0, if_pos (isT_of h4 n0)]
    by_cases n1 : (pk ts S).text = [33, 61]
    · rw [if_neg n0, if_pos n1, if_neg (by rw [isT_notx n0]; decide), if_pos (isT_of h4 n1)]
    by_cases n2 : (pk ts S).text = [60]
    · rw [if_neg n0, if_neg n1, if_pos n2, if_neg (by rw [isT_notx n0]; decide), if_neg (by rw [isT_notx n1]; decide), if_pos (isT_of h4 n2)]
    by_cases n3 : (pk ts S).text = [60, 61]
    · rw [if_neg n0, if_neg n1, if_neg n2, if_pos n3, if_neg (by rw [isT_notx n0]; decide), if_neg (by rw [isT_notx n1]; decide), if_neg (by rw [isT_notx n2]; decide), if_pos (isT_of h4 n3)]
    by_cases n4 : (pk ts S).text = [62]
    · rw [if_neg n0, if_neg n1, if_neg n2, if_neg n3, if_pos n4, if_neg (by rw [isT_notx n0]; decide), if_neg (by rw [isT_notx n1]; decide), if_neg (by rw [isT_notx n2]; decide), if_neg (by rw [isT_notx n3]; decide), if_pos (isT_of h4 n4)]
    by_cases n5 : (pk ts S).text = [62, 61]
    · rw [if_neg n0, if_neg n1, if_neg n2, if_neg n3, if_neg n4, if_pos n5, if_neg (by rw [isT_notx n0]; decide), if_neg (by rw [isT_notx n1]; decide), if_neg (by rw [isT_notx n2]; decide), if_neg (by rw [isT_notx n3]; decide), if_neg (by rw [isT_notx n4]; decide), if_pos (isT_of h4 n5)]
    rw [if_neg n0, if_neg n1, if_neg n2, if_neg n3, if_neg n4, if_neg n5] at h
    exact absurd h (by decide)
  · rw [if_neg h4] at h; exact absurd h (by decide)
theorem rel_zero {ts : List Tk} {S : PS} (h : ¬ 0 < relN (pk ts S)) : relationP ts S = if isT ts S 3 [105, 110] then .ok ((7, 0), on S) else if isT ts S 3 [110, 111, 116, 105, 110] then .ok ((7, 1), on S) else .error (wrongP ts S) := by
  unfold relationP
  have hn : ∀ m : Bs, m = [61, 61] ∨ m = [33, 61] ∨ m = [60] ∨ m = [60, 61] ∨ m = [62] ∨ m = [62, 61] → isT ts S 4 m = false := by
    intro m hm
    cases hc : isT ts S 4 m with
    | false => rfl
    | true =>
      exfalso
      apply h
      unfold isT at hc
      rw [Bool.and_eq_true] at hc
      have h1 := eq_of_beq hc.1
      have h2 := eq_of_beq hc.2
      unfold relN
      rw [if_pos h1, h2]
      rcases hm with rfl | rfl | rfl | rfl | rfl | rfl <;> decide
  rw [if_neg (by rw [hn [61, 61] (by simp)]; decide), if_neg (by rw [hn [33, 61] (by simp)]; decide), if_neg (by rw [hn [60] (by simp)]; decide), if_neg (by rw [hn [60, 61] (by simp)]; decide), if_neg (by rw [hn [62] (by simp)]; decide), if_neg (by rw [hn [62, 61] (by simp)]; decide)]
theorem relN_ge (t : Tk) : 0 ≤ relN t ∧ relN t ≤ 6 := by
  unfold relN
  repeat' split
  all_goals decide

end Go.Proofs.YtfiljgkcipnghaaGreatDoor.X
set_option linter.unusedVariables false
set_option linter.unusedSimpArgs false
namespace Go.Proofs.YtfiljgkcipnghaaGreatDoor.X
open Go.RowKit
set_option maxHeartbeats 2000000 in
set_option maxRecDepth 100000 in
theorem m_rel_pos {ts : List Tk} {B : Nat} {M : MM} {ws : List Wn} {fr : List Nat} {S : PS} {w : World} (h : MAt ts B M ws fr S w) (hT : TOK ts) (bd : MBd ws fr S) (b : Nat) (hr : 0 < relN (pk ts S)) :
    Calls Tryz.prog 55 #[.pointer (some ⟨M.P, 0, none⟩), .int .i64 (b : Nat)] w (MVoid ts B M ws w (stepM ts (.rel b) fr S)) := by
  obtain ⟨g, cap, c0, c1, hg, a0, a1, a2, a3, a4⟩ := h.tok
  have HH := Lib.hid h
  have hl := hT.len
  have hp := h.pos
  have hz := h.lt
  have hI : (S.pos : Int) < (ts.length : Int) := by omega
  have hwl := bd.wsl
  have HPA : Hid (placeT ts S.pos = (pk ts S).at_) := Lib.hid rfl
  have HR := Lib.hid hr
  have hp2 := pos_next hT h.pos (by rw [(rel_pos hr).2]; decide)
  obtain ⟨r, hrr⟩ : ∃ r, r = relN (pk ts S) := ⟨_, rfl⟩
  have RE := Lib.hid hrr
  have hge := (relN_ge (pk ts S)).1
  rw [← hrr] at hr hge
  clear h hrr
  go_enter Tryz.func55, Tryz.ntmps55
  go_wp2_with fail
  go_region
  go_wp2_with fail
  refine (m_relation (pk ts S)).mono ?_
  rw [← RE.out]
  rintro e v1 ⟨rfl, hB⟩
  have H1 := Lib.hid ((HH.out.below (((Below.refl _ _).alloc (Nat.le_refl _) _).drew)).below hB)
  have W1 := Lib.hid (((((Below.refl w.heap.size w).alloc (Nat.le_refl _) _).drew)).trans (hB.mono (by simp)))
  have X1 : Hid (TBox v1 w.heap.size (pk ts S)) := Lib.hid ((TBox.new w (pk ts S)).below hB)
  clear hB
  have k0 := X1.out.k
  have k1 := X1.out.x
  have k2 := X1.out.n
  have k3 := X1.out.a
  have hzt := X1.out.lt
  have hz1 := H1.out.lt
  go_wp2_with fail
  have hal : Below v1.heap.size v1 (v1.alloc (.cells #[.int .i64 11, .int .i64 0, .int .i64 ((pk ts S).at_ : Nat), .string ⟨#[]⟩, .int .i64 0, .int .i64 b] 95)) := (Below.refl _ _).alloc (Nat.le_refl _) _
  have hwb : (v1.alloc (.cells #[.int .i64 11, .int .i64 0, .int .i64 ((pk ts S).at_ : Nat), .string ⟨#[]⟩, .int .i64 0, .int .i64 b] 95)).heap[v1.heap.size]? = some (.cells #[.int .i64 11, .int .i64 0, .int .i64 ((pk ts S).at_ : Nat), .string ⟨#[]⟩, .int .i64 0, .int .i64 b] 95 (0, 0)) := heap_alloc_new v1 _
  refine (m_word (H1.out.below hal) hT ⟨#[105, 110]⟩).mono ?_
  rw [show (⟨#[105, 110]⟩ : ByteArray).data.toList = [105, 110] from rfl]
  rintro e v2 ⟨rfl, hB⟩
  have hb2 := (hB.block _ (by simp)).trans hwb
  have H2 := Lib.hid ((H1.out.below hal).below hB)
  have W2 := Lib.hid ((W1.out.trans (hal.mono (by omega))).trans (hB.mono (by simp; omega)))
  have X2 := Lib.hid hb2
  clear hB hb2 hwb hal k0 k1 k2 k3
  generalize isT ts S 3 [105, 110] = y1
  go_wp2_with fail
  refine (m_word H2.out hT ⟨#[110, 111, 116, 105, 110]⟩).mono ?_
  rw [show (⟨#[110, 111, 116, 105, 110]⟩ : ByteArray).data.toList = [110, 111, 116, 105, 110] from rfl]
  rintro e v3 ⟨rfl, hB⟩
  have hb3 := (hB.block _ (Array.getElem?_eq_some_iff.1 X2.out).1).trans X2.out
  have H3 := Lib.hid (H2.out.below hB)
  have W3 := Lib.hid (W2.out.trans (hB.mono (by have := W2.out.size; omega)))
  generalize isT ts S 3 [110, 111, 116, 105, 110] = y2
  have k0 : v3.cell? ⟨v1.heap.size, 0, none⟩ = some (.int .i64 11) := (Lib.cell_of_heap hb3 _).trans rfl
  have k1 : v3.cell? ⟨v1.heap.size, 1, none⟩ = some (.int .i64 0) := (Lib.cell_of_heap hb3 _).trans rfl
  have k2 : v3.cell? ⟨v1.heap.size, 2, none⟩ = some (.int .i64 ((pk ts S).at_ : Nat)) := (Lib.cell_of_heap hb3 _).trans rfl
  have k3 : v3.cell? ⟨v1.heap.size, 3, none⟩ = some (.string ⟨#[]⟩) := (Lib.cell_of_heap hb3 _).trans rfl
  have k4 : v3.cell? ⟨v1.heap.size, 4, none⟩ = some (.int .i64 0) := (Lib.cell_of_heap hb3 _).trans rfl
  have k5 : v3.cell? ⟨v1.heap.size, 5, none⟩ = some (.int .i64 b) := (Lib.cell_of_heap hb3 _).trans rfl
  have kf : ∀ j, v3.frozen? ⟨v1.heap.size, j, none⟩ = false := fun j => by simp [World.frozen?, hb3]
  have hzb : v1.heap.size < v3.heap.size := (Array.getElem?_eq_some_iff.1 hb3).1
  have hne1 : ¬ M.P = v1.heap.size := by omega
  have hne2 : ¬ v1.heap.size = M.P := by omega
  have hwv : w.heap.size ≤ v1.heap.size := W1.out.size
  have d1 := H3.out.c1
  have df := H3.out.cf
  have hz3 := H3.out.lt
  clear hB hb3
  have hr2 : r > 0 := by omega
  have KB := Lib.hid ((W3.out.setCell (p := ⟨v1.heap.size, 1, none⟩) hwv (.int .i64 6)).setCell (p := ⟨v1.heap.size, 4, none⟩) hwv (.int .i64 r))
  have H4 := Lib.hid ((HH.out.below KB.out).onS hp2)
  have B4 := Lib.hid ((KB.out.mono HH.out.bsz).setCell (p := ⟨M.P, 1, none⟩) HH.out.PB (.int .i64 (S.pos + 1)))
  go_wp2_with fail
  refine (m_push H4.out (.cmp 6 r S.pos b) (by omega)).mono ?_
  rintro e v4 ⟨rfl, q1, hA, hB⟩
  have H5 := Lib.hid hA
  have B5 := Lib.hid (B4.out.trans hB)
  clear hA hB
  go_wp2_with fail
  refine (m_push H5.out .term (by simp; omega)).mono ?_
  rintro e v5 ⟨rfl, q2, hA, hB⟩
  have H6 := Lib.hid hA
  have B6 := Lib.hid (B5.out.trans hB)
  clear hA hB
  go_wp2
  go_end0
  exact void_ok (ws' := [.term, .cmp 6 r S.pos b]) (fr' := fr) (S' := on S) (by simp only [stepM, (rel_pos (show 0 < relN (pk ts S) by have := HR.out; omega)).1, bindS]; rw [← RE.out]) _ (by exact rfl) H6.out B6.out
set_option maxHeartbeats 2000000 in
set_option maxRecDepth 100000 in
theorem m_rel_in {ts : List Tk} {B : Nat} {M : MM} {ws : List Wn} {fr : List Nat} {S : PS} {w : World} (h : MAt ts B M ws fr S w) (hT : TOK ts) (bd : MBd ws fr S) (b : Nat) (hr : ¬ 0 < relN (pk ts S)) (h1 : isT ts S 3 [105, 110] = true) :
    Calls Tryz.prog 55 #[.pointer (some ⟨M.P, 0, none⟩), .int .i64 (b : Nat)] w (MVoid ts B M ws w (stepM ts (.rel b) fr S)) := by
  obtain ⟨g, cap, c0, c1, hg, a0, a1, a2, a3, a4⟩ := h.tok
  have HH := Lib.hid h
  have hl := hT.len
  have hp := h.pos
  have hz := h.lt
  have hI : (S.pos : Int) < (ts.length : Int) := by omega
  have hwl := bd.wsl
  have HPA : Hid (placeT ts S.pos = (pk ts S).at_) := Lib.hid rfl
  have HR := Lib.hid hr
  have HI := Lib.hid h1
  have hp2 := pos_next hT h.pos (by rw [isT_kind h1]; decide)
  obtain ⟨r, hrr⟩ : ∃ r, r = relN (pk ts S) := ⟨_, rfl⟩
  have RE := Lib.hid hrr
  have hge := (relN_ge (pk ts S)).1
  rw [← hrr] at hr hge
  clear h hrr h1
  go_enter Tryz.func55, Tryz.ntmps55
  go_wp2_with fail
  go_region
  go_wp2_with fail
  refine (m_relation (pk ts S)).mono ?_
  rw [← RE.out]
  rintro e v1 ⟨rfl, hB⟩
  have H1 := Lib.hid ((HH.out.below (((Below.refl _ _).alloc (Nat.le_refl _) _).drew)).below hB)
  have W1 := Lib.hid (((((Below.refl w.heap.size w).alloc (Nat.le_refl _) _).drew)).trans (hB.mono (by simp)))
  have X1 : Hid (TBox v1 w.heap.size (pk ts S)) := Lib.hid ((TBox.new w (pk ts S)).below hB)
  clear hB
  have k0 := X1.out.k
  have k1 := X1.out.x
  have k2 := X1.out.n
  have k3 := X1.out.a
  have hzt := X1.out.lt
  have hz1 := H1.out.lt
  go_wp2_with fail
  have hal : Below v1.heap.size v1 (v1.alloc (.cells #[.int .i64 11, .int .i64 0, .int .i64 ((pk ts S).at_ : Nat), .string ⟨#[]⟩, .int .i64 0, .int .i64 b] 95)) := (Below.refl _ _).alloc (Nat.le_refl _) _
  have hwb : (v1.alloc (.cells #[.int .i64 11, .int .i64 0, .int .i64 ((pk ts S).at_ : Nat), .string ⟨#[]⟩, .int .i64 0, .int .i64 b] 95)).heap[v1.heap.size]? = some (.cells #[.int .i64 11, .int .i64 0, .int .i64 ((pk ts S).at_ : Nat), .string ⟨#[]⟩, .int .i64 0, .int .i64 b] 95 (0, 0)) := heap_alloc_new v1 _
  refine (m_word (H1.out.below hal) hT ⟨#[105, 110]⟩).mono ?_
  rw [show (⟨#[105, 110]⟩ : ByteArray).data.toList = [105, 110] from rfl, HI.out]
  rintro e v2 ⟨rfl, hB⟩
  have hb2 := (hB.block _ (by simp)).trans hwb
  have H2 := Lib.hid ((H1.out.below hal).below hB)
  have W2 := Lib.hid ((W1.out.trans (hal.mono (by omega))).trans (hB.mono (by simp; omega)))
  have X2 := Lib.hid hb2
  clear hB hb2 hwb hal k0 k1 k2 k3
  go_wp2_with fail
  refine (m_word H2.out hT ⟨#[110, 111, 116, 105, 110]⟩).mono ?_
  rw [show (⟨#[110, 111, 116, 105, 110]⟩ : ByteArray).data.toList = [110, 111, 116, 105, 110] from rfl]
  rintro e v3 ⟨rfl, hB⟩
  have hb3 := (hB.block _ (Array.getElem?_eq_some_iff.1 X2.out).1).trans X2.out
  have H3 := Lib.hid (H2.out.below hB)
  have W3 := Lib.hid (W2.out.trans (hB.mono (by have := W2.out.size; omega)))
  generalize isT ts S 3 [110, 111, 116, 105, 110] = y2
  have k0 : v3.cell? ⟨v1.heap.size, 0, none⟩ = some (.int .i64 11) := (Lib.cell_of_heap hb3 _).trans rfl
  have k1 : v3.cell? ⟨v1.heap.size, 1, none⟩ = some (.int .i64 0) := (Lib.cell_of_heap hb3 _).trans rfl
  have k2 : v3.cell? ⟨v1.heap.size, 2, none⟩ = some (.int .i64 ((pk ts S).at_ : Nat)) := (Lib.cell_of_heap hb3 _).trans rfl
  have k3 : v3.cell? ⟨v1.heap.size, 3, none⟩ = some (.string ⟨#[]⟩) := (Lib.cell_of_heap hb3 _).trans rfl
  have k4 : v3.cell? ⟨v1.heap.size, 4, none⟩ = some (.int .i64 0) := (Lib.cell_of_heap hb3 _).trans rfl
  have k5 : v3.cell? ⟨v1.heap.size, 5, none⟩ = some (.int .i64 b) := (Lib.cell_of_heap hb3 _).trans rfl
  have kf : ∀ j, v3.frozen? ⟨v1.heap.size, j, none⟩ = false := fun j => by simp [World.frozen?, hb3]
  have hzb : v1.heap.size < v3.heap.size := (Array.getElem?_eq_some_iff.1 hb3).1
  have hne1 : ¬ M.P = v1.heap.size := by omega
  have hne2 : ¬ v1.heap.size = M.P := by omega
  have hwv : w.heap.size ≤ v1.heap.size := W1.out.size
  have d1 := H3.out.c1
  have df := H3.out.cf
  have hz3 := H3.out.lt
  clear hB hb3
  have hr2 : ¬ r > 0 := by omega
  have KB := Lib.hid (W3.out.setCell (p := ⟨v1.heap.size, 1, none⟩) hwv (.int .i64 7))
  have H4 := Lib.hid ((HH.out.below KB.out).onS hp2)
  have B4 := Lib.hid ((KB.out.mono HH.out.bsz).setCell (p := ⟨M.P, 1, none⟩) HH.out.PB (.int .i64 (S.pos + 1)))
  go_wp2_with fail
  refine (m_push H4.out (.cmp 7 0 S.pos b) (by omega)).mono ?_
  rintro e v4 ⟨rfl, q1, hA, hB⟩
  have H5 := Lib.hid hA
  have B5 := Lib.hid (B4.out.trans hB)
  clear hA hB
  go_wp2_with fail
  refine (m_push H5.out .term (by simp; omega)).mono ?_
  rintro e v5 ⟨rfl, q2, hA, hB⟩
  have H6 := Lib.hid hA
  have B6 := Lib.hid (B5.out.trans hB)
  clear hA hB
  go_wp2
  go_end0
  exact void_ok (ws' := [.term, .cmp 7 0 S.pos b]) (fr' := fr) (S' := on S) (by simp only [stepM, rel_zero (show ¬ 0 < relN (pk ts S) by have := HR.out; omega), HI.out, if_true, bindS]) _ (by exact rfl) H6.out B6.out
set_option maxHeartbeats 2000000 in
set_option maxRecDepth 100000 in
theorem m_rel_notin {ts : List Tk} {B : Nat} {M : MM} {ws : List Wn} {fr : List Nat} {S : PS} {w : World} (h : MAt ts B M ws fr S w) (hT : TOK ts) (bd : MBd ws fr S) (b : Nat) (hr : ¬ 0 < relN (pk ts S)) (h1 : isT ts S 3 [105, 110] = false) (h2 : isT ts S 3 [110, 111, 116, 105, 110] = true) :
    Calls Tryz.prog 55 #[.pointer (some ⟨M.P, 0, none⟩), .int .i64 (b : Nat)] w (MVoid ts B M ws w (stepM ts (.rel b) fr S)) := by
  obtain ⟨g, cap, c0, c1, hg, a0, a1, a2, a3, a4⟩ := h.tok
  have HH := Lib.hid h
  have hl := hT.len
  have hp := h.pos
  have hz := h.lt
  have hI : (S.pos : Int) < (ts.length : Int) := by omega
  have hwl := bd.wsl
  have HPA : Hid (placeT ts S.pos = (pk ts S).at_) := Lib.hid rfl
  have HR := Lib.hid hr
  have HI := Lib.hid h1
  have HN := Lib.hid h2
  have hp2 := pos_next hT h.pos (by rw [isT_kind h2]; decide)
  obtain ⟨r, hrr⟩ : ∃ r, r = relN (pk ts S) := ⟨_, rfl⟩
  have RE := Lib.hid hrr
  have hge := (relN_ge (pk ts S)).1
  rw [← hrr] at hr hge
  clear h hrr h1 h2
  go_enter Tryz.func55, Tryz.ntmps55
  go_wp2_with fail
  go_region
  go_wp2_with fail
  refine (m_relation (pk ts S)).mono ?_
  rw [← RE.out]
  rintro e v1 ⟨rfl, hB⟩
  have H1 := Lib.hid ((HH.out.below (((Below.refl _ _).alloc (Nat.le_refl _) _).drew)).below hB)
  have W1 := Lib.hid (((((Below.refl w.heap.size w).alloc (Nat.le_refl _) _).drew)).trans (hB.mono (by simp)))
  have X1 : Hid (TBox v1 w.heap.size (pk ts S)) := Lib.hid ((TBox.new w (pk ts S)).below hB)
  clear hB
  have k0 := X1.out.k
  have k1 := X1.out.x
  have k2 := X1.out.n
  have k3 := X1.out.a
  have hzt := X1.out.lt
  have hz1 := H1.out.lt
  go_wp2_with fail
  have hal : Below v1.heap.size v1 (v1.alloc (.cells #[.int .i64 11, .int .i64 0, .int .i64 ((pk ts S).at_ : Nat), .string ⟨#[]⟩, .int .i64 0, .int .i64 b] 95)) := (Below.refl _ _).alloc (Nat.le_refl _) _
  have hwb : (v1.alloc (.cells #[.int .i64 11, .int .i64 0, .int .i64 ((pk ts S).at_ : Nat), .string ⟨#[]⟩, .int .i64 0, .int .i64 b] 95)).heap[v1.heap.size]? = some (.cells #[.int .i64 11, .int .i64 0, .int .i64 ((pk ts S).at_ : Nat), .string ⟨#[]⟩, .int .i64 0, .int .i64 b] 95 (0, 0)) := heap_alloc_new v1 _
  refine (m_word (H1.out.below hal) hT ⟨#[105, 110]⟩).mono ?_
  rw [show (⟨#[105, 110]⟩ : ByteArray).data.toList = [105, 110] from rfl, HI.out]
  rintro e v2 ⟨rfl, hB⟩
  have hb2 := (hB.block _ (by simp)).trans hwb
  have H2 := Lib.hid ((H1.out.below hal).below hB)
  have W2 := Lib.hid ((W1.out.trans (hal.mono (by omega))).trans (hB.mono (by simp; omega)))
  have X2 := Lib.hid hb2
  clear hB hb2 hwb hal k0 k1 k2 k3
  go_wp2_with fail
  refine (m_word H2.out hT ⟨#[110, 111, 116, 105, 110]⟩).mono ?_
  rw [show (⟨#[110, 111, 116, 105, 110]⟩ : ByteArray).data.toList = [110, 111, 116, 105, 110] from rfl, HN.out]
  rintro e v3 ⟨rfl, hB⟩
  have hb3 := (hB.block _ (Array.getElem?_eq_some_iff.1 X2.out).1).trans X2.out
  have H3 := Lib.hid (H2.out.below hB)
  have W3 := Lib.hid (W2.out.trans (hB.mono (by have := W2.out.size; omega)))
  have k0 : v3.cell? ⟨v1.heap.size, 0, none⟩ = some (.int .i64 11) := (Lib.cell_of_heap hb3 _).trans rfl
  have k1 : v3.cell? ⟨v1.heap.size, 1, none⟩ = some (.int .i64 0) := (Lib.cell_of_heap hb3 _).trans rfl
  have k2 : v3.cell? ⟨v1.heap.size, 2, none⟩ = some (.int .i64 ((pk ts S).at_ : Nat)) := (Lib.cell_of_heap hb3 _).trans rfl
  have k3 : v3.cell? ⟨v1.heap.size, 3, none⟩ = some (.string ⟨#[]⟩) := (Lib.cell_of_heap hb3 _).trans rfl
  have k4 : v3.cell? ⟨v1.heap.size, 4, none⟩ = some (.int .i64 0) := (Lib.cell_of_heap hb3 _).trans rfl
  have k5 : v3.cell? ⟨v1.heap.size, 5, none⟩ = some (.int .i64 b) := (Lib.cell_of_heap hb3 _).trans rfl
  have kf : ∀ j, v3.frozen? ⟨v1.heap.size, j, none⟩ = false := fun j => by simp [World.frozen?, hb3]
  have hzb : v1.heap.size < v3.heap.size := (Array.getElem?_eq_some_iff.1 hb3).1
  have hne1 : ¬ M.P = v1.heap.size := by omega
  have hne2 : ¬ v1.heap.size = M.P := by omega
  have hwv : w.heap.size ≤ v1.heap.size := W1.out.size
  have d1 := H3.out.c1
  have df := H3.out.cf
  have hz3 := H3.out.lt
  clear hB hb3
  have hr2 : ¬ r > 0 := by omega
  have KB := Lib.hid ((W3.out.setCell (p := ⟨v1.heap.size, 1, none⟩) hwv (.int .i64 7)).setCell (p := ⟨v1.heap.size, 4, none⟩) hwv (.int .i64 1))
  have H4 := Lib.hid ((HH.out.below KB.out).onS hp2)
  have B4 := Lib.hid ((KB.out.mono HH.out.bsz).setCell (p := ⟨M.P, 1, none⟩) HH.out.PB (.int .i64 (S.pos + 1)))
  go_wp2_with fail
  refine (m_push H4.out (.cmp 7 1 S.pos b) (by omega)).mono ?_
  rintro e v4 ⟨rfl, q1, hA, hB⟩
  have H5 := Lib.hid hA
  have B5 := Lib.hid (B4.out.trans hB)
  clear hA hB
  go_wp2_with fail
  refine (m_push H5.out .term (by simp; omega)).mono ?_
  rintro e v5 ⟨rfl, q2, hA, hB⟩
  have H6 := Lib.hid hA
  have B6 := Lib.hid (B5.out.trans hB)
  clear hA hB
  go_wp2
  go_end0
  exact void_ok (ws' := [.term, .cmp 7 1 S.pos b]) (fr' := fr) (S' := on S) (by simp only [stepM, rel_zero (show ¬ 0 < relN (pk ts S) by have := HR.out; omega), HI.out, HN.out, Bool.false_eq_true, if_false, if_true, bindS]) _ (by exact rfl) H6.out B6.out
set_option maxHeartbeats 2000000 in
set_option maxRecDepth 100000 in
theorem m_rel_none {ts : List Tk} {B : Nat} {M : MM} {ws : List Wn} {fr : List Nat} {S : PS} {w : World} (h : MAt ts B M ws fr S w) (hT : TOK ts) (bd : MBd ws fr S) (b : Nat) (hr : ¬ 0 < relN (pk ts S)) (h1 : isT ts S 3 [105, 110] = false) (h2 : isT ts S 3 [110, 111, 116, 105, 110] = false) :
    Calls Tryz.prog 55 #[.pointer (some ⟨M.P, 0, none⟩), .int .i64 (b : Nat)] w (MVoid ts B M ws w (stepM ts (.rel b) fr S)) := by
  obtain ⟨g, cap, c0, c1, hg, a0, a1, a2, a3, a4⟩ := h.tok
  have HH := Lib.hid h
  have hl := hT.len
  have hp := h.pos
  have hz := h.lt
  have hI : (S.pos : Int) < (ts.length : Int) := by omega
  have hwl := bd.wsl
  have HPA : Hid (placeT ts S.pos = (pk ts S).at_) := Lib.hid rfl
  have HR := Lib.hid hr
  have HI := Lib.hid h1
  have HN := Lib.hid h2
  obtain ⟨r, hrr⟩ : ∃ r, r = relN (pk ts S) := ⟨_, rfl⟩
  have RE := Lib.hid hrr
  have hge := (relN_ge (pk ts S)).1
  rw [← hrr] at hr hge
  clear h hrr h1 h2
  go_enter Tryz.func55, Tryz.ntmps55
  go_wp2_with fail
  go_region
  go_wp2_with fail
  refine (m_relation (pk ts S)).mono ?_
  rw [← RE.out]
  rintro e v1 ⟨rfl, hB⟩
  have H1 := Lib.hid ((HH.out.below (((Below.refl _ _).alloc (Nat.le_refl _) _).drew)).below hB)
  have W1 := Lib.hid (((((Below.refl w.heap.size w).alloc (Nat.le_refl _) _).drew)).trans (hB.mono (by simp)))
  have X1 : Hid (TBox v1 w.heap.size (pk ts S)) := Lib.hid ((TBox.new w (pk ts S)).below hB)
  clear hB
  have k0 := X1.out.k
  have k1 := X1.out.x
  have k2 := X1.out.n
  have k3 := X1.out.a
  have hzt := X1.out.lt
  have hz1 := H1.out.lt
  go_wp2_with fail
  have hal : Below v1.heap.size v1 (v1.alloc (.cells #[.int .i64 11, .int .i64 0, .int .i64 ((pk ts S).at_ : Nat), .string ⟨#[]⟩, .int .i64 0, .int .i64 b] 95)) := (Below.refl _ _).alloc (Nat.le_refl _) _
  have hwb : (v1.alloc (.cells #[.int .i64 11, .int .i64 0, .int .i64 ((pk ts S).at_ : Nat), .string ⟨#[]⟩, .int .i64 0, .int .i64 b] 95)).heap[v1.heap.size]? = some (.cells #[.int .i64 11, .int .i64 0, .int .i64 ((pk ts S).at_ : Nat), .string ⟨#[]⟩, .int .i64 0, .int .i64 b] 95 (0, 0)) := heap_alloc_new v1 _
  refine (m_word (H1.out.below hal) hT ⟨#[105, 110]⟩).mono ?_
  rw [show (⟨#[105, 110]⟩ : ByteArray).data.toList = [105, 110] from rfl, HI.out]
  rintro e v2 ⟨rfl, hB⟩
  have hb2 := (hB.block _ (by simp)).trans hwb
  have H2 := Lib.hid ((H1.out.below hal).below hB)
  have W2 := Lib.hid ((W1.out.trans (hal.mono (by omega))).trans (hB.mono (by simp; omega)))
  have X2 := Lib.hid hb2
  clear hB hb2 hwb hal k0 k1 k2 k3
  go_wp2_with fail
  refine (m_word H2.out hT ⟨#[110, 111, 116, 105, 110]⟩).mono ?_
  rw [show (⟨#[110, 111, 116, 105, 110]⟩ : ByteArray).data.toList = [110, 111, 116, 105, 110] from rfl, HN.out]
  rintro e v3 ⟨rfl, hB⟩
  have hb3 := (hB.block _ (Array.getElem?_eq_some_iff.1 X2.out).1).trans X2.out
  have H3 := Lib.hid (H2.out.below hB)
  have W3 := Lib.hid (W2.out.trans (hB.mono (by have := W2.out.size; omega)))
  have k0 : v3.cell? ⟨v1.heap.size, 0, none⟩ = some (.int .i64 11) := (Lib.cell_of_heap hb3 _).trans rfl
  have k1 : v3.cell? ⟨v1.heap.size, 1, none⟩ = some (.int .i64 0) := (Lib.cell_of_heap hb3 _).trans rfl
  have k2 : v3.cell? ⟨v1.heap.size, 2, none⟩ = some (.int .i64 ((pk ts S).at_ : Nat)) := (Lib.cell_of_heap hb3 _).trans rfl
  have k3 : v3.cell? ⟨v1.heap.size, 3, none⟩ = some (.string ⟨#[]⟩) := (Lib.cell_of_heap hb3 _).trans rfl
  have k4 : v3.cell? ⟨v1.heap.size, 4, none⟩ = some (.int .i64 0) := (Lib.cell_of_heap hb3 _).trans rfl
  have k5 : v3.cell? ⟨v1.heap.size, 5, none⟩ = some (.int .i64 b) := (Lib.cell_of_heap hb3 _).trans rfl
  have kf : ∀ j, v3.frozen? ⟨v1.heap.size, j, none⟩ = false := fun j => by simp [World.frozen?, hb3]
  have hzb : v1.heap.size < v3.heap.size := (Array.getElem?_eq_some_iff.1 hb3).1
  have hne1 : ¬ M.P = v1.heap.size := by omega
  have hne2 : ¬ v1.heap.size = M.P := by omega
  have hwv : w.heap.size ≤ v1.heap.size := W1.out.size
  have d1 := H3.out.c1
  have df := H3.out.cf
  have hz3 := H3.out.lt
  clear hB hb3
  have hr2 : ¬ r > 0 := by omega
  go_wp2_with fail
  refine (m_wrong H3.out hT).mono ?_
  rintro e wl ⟨rfl, hf, hB⟩
  have FF := Lib.hid hf
  have BB := Lib.hid ((W3.out.mono HH.out.bsz).trans hB)
  clear hB hf
  go_wp2
  go_end0
  exact void_err (f := wrongP ts S) (by simp only [stepM, rel_zero (show ¬ 0 < relN (pk ts S) by have := HR.out; omega), HI.out, HN.out, Bool.false_eq_true, if_false, bindS]) FF.out BB.out
theorem m_rel {ts : List Tk} {B : Nat} {M : MM} {ws : List Wn} {fr : List Nat} {S : PS} {w : World} (h : MAt ts B M ws fr S w) (hT : TOK ts) (bd : MBd ws fr S) (b : Nat) :
    Calls Tryz.prog 55 #[.pointer (some ⟨M.P, 0, none⟩), .int .i64 (b : Nat)] w (MVoid ts B M ws w (stepM ts (.rel b) fr S)) := by
  by_cases hr : 0 < relN (pk ts S)
  · exact m_rel_pos h hT bd b hr
  cases h1 : isT ts S 3 [105, 110] with
  | true => exact m_rel_in h hT bd b hr h1
  | false =>
    cases h2 : isT ts S 3 [110, 111, 116, 105, 110] with
    | true => exact m_rel_notin h hT bd b hr h1 h2
    | false => exact m_rel_none h hT bd b hr h1 h2

end Go.Proofs.YtfiljgkcipnghaaGreatDoor.X
set_option linter.unusedVariables false
set_option linter.unusedSimpArgs false
namespace Go.Proofs.YtfiljgkcipnghaaGreatDoor.X
open Go.RowKit
set_option maxHeartbeats 2000000 in
set_option maxRecDepth 100000 in
theorem m_step_expr {ts : List Tk} {B : Nat} {M : MM} {ws : List Wn} {fr : List Nat} {S : PS} {w : World} (h : MAt ts B M ws fr S w) (hT : TOK ts) (bd : MBd ws fr S)  :
    Calls Tryz.prog 39 #[.pointer (some ⟨M.P, 0, none⟩), .agg (wCells ts .expr).toArray] w (MVoid ts B M ws w (stepM ts .expr fr S)) := by
  have HH := Lib.hid h
  have hl := hT.len
  have hp := h.pos
  have hz := h.lt
  have hwl := bd.wsl
  obtain ⟨Af, cfr, hvf⟩ := own_shape h.rows.free
  have c5 : w.cell? ⟨M.P, 5, none⟩ = some (.slice Af fr.length cfr) := by rw [← hvf]; exact h.c5
  clear hvf
  rw [show (wCells ts .expr).toArray = #[.int .i64 1, .int .i64 0, .int .i64 0, .string ⟨#[]⟩, .int .i64 0, .int .i64 0] from rfl]
  have hbx : Below w.heap.size w (w.alloc (.cells #[.int .i64 1, .int .i64 0, .int .i64 0, .string ⟨#[]⟩, .int .i64 0, .int .i64 0] 95)) := (Below.refl _ _).alloc (Nat.le_refl _) _
  have BX := Lib.hid hbx
  have H1 := Lib.hid (h.below hbx)
  have B1 := Lib.hid (hbx.mono h.bsz)
  clear h hbx
  go_enter Tryz.func39, Tryz.ntmps39
  go_wp2_with fail
  refine (m_push H1.out (.ors none fr.length) (by omega)).mono ?_
  rintro e v1 ⟨rfl, q1, hA, hB⟩
  have H2 := Lib.hid hA
  have B2 := Lib.hid (B1.out.trans hB)
  clear hA hB c5
  go_wp2_with fail
  refine (m_push H2.out .conj (by simp; omega)).mono ?_
  rintro e v2 ⟨rfl, q2, hA, hB⟩
  have H3 := Lib.hid hA
  have B3 := Lib.hid (B2.out.trans hB)
  clear hA hB
  go_wp2
  go_end0
  exact void_ok (ws' := [.conj, .ors none fr.length]) (fr' := fr) (S' := S) rfl _ (by exact rfl) H3.out B3.out
set_option maxHeartbeats 2000000 in
set_option maxRecDepth 100000 in
theorem m_step_conj {ts : List Tk} {B : Nat} {M : MM} {ws : List Wn} {fr : List Nat} {S : PS} {w : World} (h : MAt ts B M ws fr S w) (hT : TOK ts) (bd : MBd ws fr S)  :
    Calls Tryz.prog 39 #[.pointer (some ⟨M.P, 0, none⟩), .agg (wCells ts .conj).toArray] w (MVoid ts B M ws w (stepM ts .conj fr S)) := by
  have HH := Lib.hid h
  have hl := hT.len
  have hp := h.pos
  have hz := h.lt
  have hwl := bd.wsl
  obtain ⟨Af, cfr, hvf⟩ := own_shape h.rows.free
  have c5 : w.cell? ⟨M.P, 5, none⟩ = some (.slice Af fr.length cfr) := by rw [← hvf]; exact h.c5
  clear hvf
  rw [show (wCells ts .conj).toArray = #[.int .i64 3, .int .i64 0, .int .i64 0, .string ⟨#[]⟩, .int .i64 0, .int .i64 0] from rfl]
  have hbx : Below w.heap.size w (w.alloc (.cells #[.int .i64 3, .int .i64 0, .int .i64 0, .string ⟨#[]⟩, .int .i64 0, .int .i64 0] 95)) := (Below.refl _ _).alloc (Nat.le_refl _) _
  have BX := Lib.hid hbx
  have H1 := Lib.hid (h.below hbx)
  have B1 := Lib.hid (hbx.mono h.bsz)
  clear h hbx
  go_enter Tryz.func39, Tryz.ntmps39
  go_wp2_with fail
  refine (m_push H1.out (.ands none fr.length) (by omega)).mono ?_
  rintro e v1 ⟨rfl, q1, hA, hB⟩
  have H2 := Lib.hid hA
  have B2 := Lib.hid (B1.out.trans hB)
  clear hA hB c5
  go_wp2_with fail
  refine (m_push H2.out .unit (by simp; omega)).mono ?_
  rintro e v2 ⟨rfl, q2, hA, hB⟩
  have H3 := Lib.hid hA
  have B3 := Lib.hid (B2.out.trans hB)
  clear hA hB
  go_wp2
  go_end0
  exact void_ok (ws' := [.unit, .ands none fr.length]) (fr' := fr) (S' := S) rfl _ (by exact rfl) H3.out B3.out
set_option maxHeartbeats 2000000 in
set_option maxRecDepth 100000 in
theorem m_step_ors_none {ts : List Tk} {B : Nat} {M : MM} {ws : List Wn} {fr : List Nat} {S : PS} {w : World} (h : MAt ts B M ws fr S w) (hT : TOK ts) (bd : MBd ws fr S) (b : Nat) (hb : b ≤ fr.length) :
    Calls Tryz.prog 39 #[.pointer (some ⟨M.P, 0, none⟩), .agg (wCells ts (.ors none b)).toArray] w (MVoid ts B M ws w (stepM ts (.ors none b) fr S)) := by
  have HH := Lib.hid h
  have hl := hT.len
  have hp := h.pos
  have hz := h.lt
  have hwl := bd.wsl
  have LC : Hid (∀ W, MAt ts B M ws fr S W → Calls Tryz.prog 52 #[.pointer (some ⟨M.P, 0, none⟩), .agg (wCells ts (.ors none b)).toArray, .string ⟨#[124, 124]⟩, .int .i64 3] W (MVoid ts B M ws W (stepM ts (.ors none b) fr S))) := Lib.hid (fun W hW => by
    cases hm : isT ts S 4 [124, 124] with
    | true => exact m_ors_none_more hW hT bd b hb hm
    | false => exact m_ors_none_done hW hT bd b hb hm)
  rw [show (wCells ts (.ors none b)).toArray = #[.int .i64 2, .int .i64 5, .int .i64 (-1), .string ⟨#[]⟩, .int .i64 0, .int .i64 (b : Nat)] from rfl]
  have hbx : Below w.heap.size w (w.alloc (.cells #[.int .i64 2, .int .i64 5, .int .i64 (-1), .string ⟨#[]⟩, .int .i64 0, .int .i64 (b : Nat)] 95)) := (Below.refl _ _).alloc (Nat.le_refl _) _
  have BX := Lib.hid hbx
  have H1 := Lib.hid (h.below hbx)
  have B1 := Lib.hid (hbx.mono h.bsz)
  clear h hbx
  go_enter Tryz.func39, Tryz.ntmps39
  go_wp2_with fail
  refine (LC.out _ H1.out).mono ?_
  intro e wl hV
  obtain rfl := void_ret hV
  have VL := Lib.hid hV
  clear hV
  go_wp2
  go_end0
  exact void_last VL.out rfl rfl B1.out
set_option maxHeartbeats 2000000 in
set_option maxRecDepth 100000 in
theorem m_step_ors_some {ts : List Tk} {B : Nat} {M : MM} {ws : List Wn} {fr : List Nat} {S : PS} {w : World} (h : MAt ts B M ws fr S w) (hT : TOK ts) (bd : MBd ws fr S) (i : Nat) (b : Nat) (hb : b ≤ fr.length) :
    Calls Tryz.prog 39 #[.pointer (some ⟨M.P, 0, none⟩), .agg (wCells ts (.ors (some i) b)).toArray] w (MVoid ts B M ws w (stepM ts (.ors (some i) b) fr S)) := by
  have HH := Lib.hid h
  have hl := hT.len
  have hp := h.pos
  have hz := h.lt
  have hwl := bd.wsl
  have LC : Hid (∀ W, MAt ts B M ws fr S W → Calls Tryz.prog 52 #[.pointer (some ⟨M.P, 0, none⟩), .agg (wCells ts (.ors (some i) b)).toArray, .string ⟨#[124, 124]⟩, .int .i64 3] W (MVoid ts B M ws W (stepM ts (.ors (some i) b) fr S))) := Lib.hid (fun W hW => by
    cases hm : isT ts S 4 [124, 124] with
    | true => exact m_ors_some_more hW hT bd i b hb hm
    | false => exact m_ors_some_done hW hT bd i b hb hm)
  rw [show (wCells ts (.ors (some i) b)).toArray = #[.int .i64 2, .int .i64 5, .int .i64 (placeT ts i : Nat), .string ⟨#[]⟩, .int .i64 0, .int .i64 (b : Nat)] from rfl]
  have hbx : Below w.heap.size w (w.alloc (.cells #[.int .i64 2, .int .i64 5, .int .i64 (placeT ts i : Nat), .string ⟨#[]⟩, .int .i64 0, .int .i64 (b : Nat)] 95)) := (Below.refl _ _).alloc (Nat.le_refl _) _
  have BX := Lib.hid hbx
  have H1 := Lib.hid (h.below hbx)
  have B1 := Lib.hid (hbx.mono h.bsz)
  clear h hbx
  go_enter Tryz.func39, Tryz.ntmps39
  go_wp2_with fail
  refine (LC.out _ H1.out).mono ?_
  intro e wl hV
  obtain rfl := void_ret hV
  have VL := Lib.hid hV
  clear hV
  go_wp2
  go_end0
  exact void_last VL.out rfl rfl B1.out
set_option maxHeartbeats 2000000 in
set_option maxRecDepth 100000 in
theorem m_step_ands_none {ts : List Tk} {B : Nat} {M : MM} {ws : List Wn} {fr : List Nat} {S : PS} {w : World} (h : MAt ts B M ws fr S w) (hT : TOK ts) (bd : MBd ws fr S) (b : Nat) (hb : b ≤ fr.length) :
    Calls Tryz.prog 39 #[.pointer (some ⟨M.P, 0, none⟩), .agg (wCells ts (.ands none b)).toArray] w (MVoid ts B M ws w (stepM ts (.ands none b) fr S)) := by
  have HH := Lib.hid h
  have hl := hT.len
  have hp := h.pos
  have hz := h.lt
  have hwl := bd.wsl
  have LC : Hid (∀ W, MAt ts B M ws fr S W → Calls Tryz.prog 52 #[.pointer (some ⟨M.P, 0, none⟩), .agg (wCells ts (.ands none b)).toArray, .string ⟨#[38, 38]⟩, .int .i64 5] W (MVoid ts B M ws W (stepM ts (.ands none b) fr S))) := Lib.hid (fun W hW => by
    cases hm : isT ts S 4 [38, 38] with
    | true => exact m_ands_none_more hW hT bd b hb hm
    | false => exact m_ands_none_done hW hT bd b hb hm)
  rw [show (wCells ts (.ands none b)).toArray = #[.int .i64 4, .int .i64 4, .int .i64 (-1), .string ⟨#[]⟩, .int .i64 0, .int .i64 (b : Nat)] from rfl]
  have hbx : Below w.heap.size w (w.alloc (.cells #[.int .i64 4, .int .i64 4, .int .i64 (-1), .string ⟨#[]⟩, .int .i64 0, .int .i64 (b : Nat)] 95)) := (Below.refl _ _).alloc (Nat.le_refl _) _
  have BX := Lib.hid hbx
  have H1 := Lib.hid (h.below hbx)
  have B1 := Lib.hid (hbx.mono h.bsz)
  clear h hbx
  go_enter Tryz.func39, Tryz.ntmps39
  go_wp2_with fail
  refine (LC.out _ H1.out).mono ?_
  intro e wl hV
  obtain rfl := void_ret hV
  have VL := Lib.hid hV
  clear hV
  go_wp2
  go_end0
  exact void_last VL.out rfl rfl B1.out
set_option maxHeartbeats 2000000 in
set_option maxRecDepth 100000 in
theorem m_step_ands_some {ts : List Tk} {B : Nat} {M : MM} {ws : List Wn} {fr : List Nat} {S : PS} {w : World} (h : MAt ts B M ws fr S w) (hT : TOK ts) (bd : MBd ws fr S) (i : Nat) (b : Nat) (hb : b ≤ fr.length) :
    Calls Tryz.prog 39 #[.pointer (some ⟨M.P, 0, none⟩), .agg (wCells ts (.ands (some i) b)).toArray] w (MVoid ts B M ws w (stepM ts (.ands (some i) b) fr S)) := by
  have HH := Lib.hid h
  have hl := hT.len
  have hp := h.pos
  have hz := h.lt
  have hwl := bd.wsl
  have LC : Hid (∀ W, MAt ts B M ws fr S W → Calls Tryz.prog 52 #[.pointer (some ⟨M.P, 0, none⟩), .agg (wCells ts (.ands (some i) b)).toArray, .string ⟨#[38, 38]⟩, .int .i64 5] W (MVoid ts B M ws W (stepM ts (.ands (some i) b) fr S))) := Lib.hid (fun W hW => by
    cases hm : isT ts S 4 [38, 38] with
    | true => exact m_ands_some_more hW hT bd i b hb hm
    | false => exact m_ands_some_done hW hT bd i b hb hm)
  rw [show (wCells ts (.ands (some i) b)).toArray = #[.int .i64 4, .int .i64 4, .int .i64 (placeT ts i : Nat), .string ⟨#[]⟩, .int .i64 0, .int .i64 (b : Nat)] from rfl]
  have hbx : Below w.heap.size w (w.alloc (.cells #[.int .i64 4, .int .i64 4, .int .i64 (placeT ts i : Nat), .string ⟨#[]⟩, .int .i64 0, .int .i64 (b : Nat)] 95)) := (Below.refl _ _).alloc (Nat.le_refl _) _
  have BX := Lib.hid hbx
  have H1 := Lib.hid (h.below hbx)
  have B1 := Lib.hid (hbx.mono h.bsz)
  clear h hbx
  go_enter Tryz.func39, Tryz.ntmps39
  go_wp2_with fail
  refine (LC.out _ H1.out).mono ?_
  intro e wl hV
  obtain rfl := void_ret hV
  have VL := Lib.hid hV
  clear hV
  go_wp2
  go_end0
  exact void_last VL.out rfl rfl B1.out
set_option maxHeartbeats 2000000 in
set_option maxRecDepth 100000 in
theorem m_step_unit {ts : List Tk} {B : Nat} {M : MM} {ws : List Wn} {fr : List Nat} {S : PS} {w : World} (h : MAt ts B M ws fr S w) (hT : TOK ts) (bd : MBd ws fr S)  :
    Calls Tryz.prog 39 #[.pointer (some ⟨M.P, 0, none⟩), .agg (wCells ts .unit).toArray] w (MVoid ts B M ws w (stepM ts .unit fr S)) := by
  have HH := Lib.hid h
  have hl := hT.len
  have hp := h.pos
  have hz := h.lt
  have hwl := bd.wsl
  rw [show (wCells ts .unit).toArray = #[.int .i64 5, .int .i64 0, .int .i64 0, .string ⟨#[]⟩, .int .i64 0, .int .i64 0] from rfl]
  have hbx : Below w.heap.size w (w.alloc (.cells #[.int .i64 5, .int .i64 0, .int .i64 0, .string ⟨#[]⟩, .int .i64 0, .int .i64 0] 95)) := (Below.refl _ _).alloc (Nat.le_refl _) _
  have BX := Lib.hid hbx
  have H1 := Lib.hid (h.below hbx)
  have B1 := Lib.hid (hbx.mono h.bsz)
  clear h hbx
  go_enter Tryz.func39, Tryz.ntmps39
  go_wp2_with fail
  refine (m_unit H1.out hT bd).mono ?_
  intro e wl hV
  obtain rfl := void_ret hV
  have VL := Lib.hid hV
  clear hV
  go_wp2
  go_end0
  exact void_last VL.out (rfl) rfl B1.out
set_option maxHeartbeats 2000000 in
set_option maxRecDepth 100000 in
theorem m_step_term {ts : List Tk} {B : Nat} {M : MM} {ws : List Wn} {fr : List Nat} {S : PS} {w : World} (h : MAt ts B M ws fr S w) (hT : TOK ts) (bd : MBd ws fr S) (hs : fr.length ≤ 4100 ∧ S.parts.length ≤ 4100 ∧ S.offs.length ≤ 4100) :
    Calls Tryz.prog 39 #[.pointer (some ⟨M.P, 0, none⟩), .agg (wCells ts .term).toArray] w (MVoid ts B M ws w (stepM ts .term fr S)) := by
  have HH := Lib.hid h
  have hl := hT.len
  have hp := h.pos
  have hz := h.lt
  have hwl := bd.wsl
  rw [show (wCells ts .term).toArray = #[.int .i64 6, .int .i64 0, .int .i64 0, .string ⟨#[]⟩, .int .i64 0, .int .i64 0] from rfl]
  have hbx : Below w.heap.size w (w.alloc (.cells #[.int .i64 6, .int .i64 0, .int .i64 0, .string ⟨#[]⟩, .int .i64 0, .int .i64 0] 95)) := (Below.refl _ _).alloc (Nat.le_refl _) _
  have BX := Lib.hid hbx
  have H1 := Lib.hid (h.below hbx)
  have B1 := Lib.hid (hbx.mono h.bsz)
  clear h hbx
  go_enter Tryz.func39, Tryz.ntmps39
  go_wp2_with fail
  refine (m_term H1.out hT bd hs).mono ?_
  intro e wl hV
  obtain rfl := void_ret hV
  have VL := Lib.hid hV
  clear hV
  go_wp2
  go_end0
  exact void_last VL.out (rfl) rfl B1.out
set_option maxHeartbeats 2000000 in
set_option maxRecDepth 100000 in
theorem m_step_rel {ts : List Tk} {B : Nat} {M : MM} {ws : List Wn} {fr : List Nat} {S : PS} {w : World} (h : MAt ts B M ws fr S w) (hT : TOK ts) (bd : MBd ws fr S) (b : Nat) :
    Calls Tryz.prog 39 #[.pointer (some ⟨M.P, 0, none⟩), .agg (wCells ts (.rel b)).toArray] w (MVoid ts B M ws w (stepM ts (.rel b) fr S)) := by
  have HH := Lib.hid h
  have hl := hT.len
  have hp := h.pos
  have hz := h.lt
  have hwl := bd.wsl
  rw [show (wCells ts (.rel b)).toArray = #[.int .i64 7, .int .i64 0, .int .i64 0, .string ⟨#[]⟩, .int .i64 0, .int .i64 (b : Nat)] from rfl]
  have hbx : Below w.heap.size w (w.alloc (.cells #[.int .i64 7, .int .i64 0, .int .i64 0, .string ⟨#[]⟩, .int .i64 0, .int .i64 (b : Nat)] 95)) := (Below.refl _ _).alloc (Nat.le_refl _) _
  have BX := Lib.hid hbx
  have H1 := Lib.hid (h.below hbx)
  have B1 := Lib.hid (hbx.mono h.bsz)
  clear h hbx
  go_enter Tryz.func39, Tryz.ntmps39
  go_wp2_with fail
  refine (m_rel H1.out hT bd b).mono ?_
  intro e wl hV
  obtain rfl := void_ret hV
  have VL := Lib.hid hV
  clear hV
  go_wp2
  go_end0
  exact void_last VL.out (rfl) rfl B1.out
set_option maxHeartbeats 2000000 in
set_option maxRecDepth 100000 in
theorem m_step_close {ts : List Tk} {B : Nat} {M : MM} {ws : List Wn} {fr : List Nat} {S : PS} {w : World} (h : MAt ts B M ws fr S w) (hT : TOK ts) (bd : MBd ws fr S) (hn : 1 ≤ S.nest) :
    Calls Tryz.prog 39 #[.pointer (some ⟨M.P, 0, none⟩), .agg (wCells ts .close).toArray] w (MVoid ts B M ws w (stepM ts .close fr S)) := by
  have HH := Lib.hid h
  have hl := hT.len
  have hp := h.pos
  have hz := h.lt
  have hwl := bd.wsl
  rw [show (wCells ts .close).toArray = #[.int .i64 8, .int .i64 0, .int .i64 0, .string ⟨#[]⟩, .int .i64 0, .int .i64 0] from rfl]
  have hbx : Below w.heap.size w (w.alloc (.cells #[.int .i64 8, .int .i64 0, .int .i64 0, .string ⟨#[]⟩, .int .i64 0, .int .i64 0] 95)) := (Below.refl _ _).alloc (Nat.le_refl _) _
  have BX := Lib.hid hbx
  have H1 := Lib.hid (h.below hbx)
  have B1 := Lib.hid (hbx.mono h.bsz)
  clear h hbx
  go_enter Tryz.func39, Tryz.ntmps39
  go_wp2_with fail
  refine (m_take H1.out hT ⟨#[41]⟩).mono ?_
  intro e v1 hM
  rw [show (⟨#[41]⟩ : ByteArray).data.toList = [41] from rfl] at hM
  obtain ⟨f, hm1⟩ | ⟨S1, hm1⟩ := exc_cases (markP ts [41] S)
  · rw [hm1] at hM
    obtain ⟨rfl, hf, hB⟩ := hM
    have FF := Lib.hid hf
    have BB := Lib.hid (B1.out.trans hB)
    clear hB hf
    go_wp2
    go_end0
    exact void_err (f := f) (by simp only [stepM, shutP, hm1, thenS]) FF.out BB.out
  · rw [hm1] at hM
    obtain ⟨rfl, hA, hB⟩ := hM
    have H2 := Lib.hid hA
    have B2 := Lib.hid (B1.out.trans hB)
    have e1 : S1.nest = S.nest := mark_nest hm1
    obtain ⟨m, hm⟩ : ∃ m, S1.nest = m + 1 := ⟨S1.nest - 1, by omega⟩
    have c6 : v1.cell? ⟨M.P, 6, none⟩ = some (.int .i64 ((m : Int) + 1)) := by have h := H2.out.c6; rw [hm] at h; exact h
    have cf := H2.out.cf
    have hz2 := H2.out.lt
    have hmb : m ≤ 32 := by have := bd.nest; omega
    have HM := Lib.hid hm
    have H3 : Hid (MAt ts B M ws fr (closeN S1) (v1.setCell ⟨M.P, 6, none⟩ (.int .i64 (m : Nat)))) := Lib.hid (by
      have h := H2.out.turnNest m
      have e2 : closeN S1 = { S1 with nest := m } := by unfold closeN; rw [HM.out]; rfl
      rw [e2]; exact h)
    have hw6 : (m : Int) + 1 - 1 = (m : Int) := by omega
    clear hA hB hm
    go_wp2
    go_end0
    exact void_ok (ws' := []) (fr' := fr) (S' := closeN S1) (by simp only [stepM, shutP, hm1, thenS]) _ (by exact rfl) (by first | exact H3.out | (rw [← hw6] at H3; exact H3.out)) (B2.out.setCell (p := ⟨M.P, 6, none⟩) H2.out.PB _)
set_option maxHeartbeats 2000000 in
set_option maxRecDepth 100000 in
theorem m_step_neg {ts : List Tk} {B : Nat} {M : MM} {ws : List Wn} {fr : List Nat} {S : PS} {w : World} (h : MAt ts B M ws fr S w) (hT : TOK ts) (bd : MBd ws fr S) (i b : Nat) (hb : b ≤ fr.length) (hn : 1 ≤ S.nest) :
    Calls Tryz.prog 39 #[.pointer (some ⟨M.P, 0, none⟩), .agg (wCells ts (.neg i b)).toArray] w (MVoid ts B M ws w (stepM ts (.neg i b) fr S)) := by
  have HH := Lib.hid h
  have hl := hT.len
  have hp := h.pos
  have hz := h.lt
  have hwl := bd.wsl
  obtain ⟨m, hm⟩ : ∃ m, S.nest = m + 1 := ⟨S.nest - 1, by omega⟩
  have c6 : w.cell? ⟨M.P, 6, none⟩ = some (.int .i64 ((m : Int) + 1)) := by have h6 := h.c6; rw [hm] at h6; exact h6
  have cf := h.cf
  have hmb : m ≤ 32 := by have := bd.nest; omega
  have H2 : Hid (MAt ts B M ws fr (closeN S) ((w.setCell ⟨M.P, 6, none⟩ (.int .i64 (m : Nat))).alloc (.cells #[.int .i64 9, .int .i64 0, .int .i64 (placeT ts i : Nat), .string ⟨#[]⟩, .int .i64 0, .int .i64 (b : Nat)] 95))) := Lib.hid (by
    have h2 := h.turnNest m
    have e2 : closeN S = { S with nest := m } := by unfold closeN; rw [hm]; rfl
    rw [e2]
    exact h2.below ((Below.refl _ _).alloc (Nat.le_refl _) _))
  have B2 : Hid (Below B w ((w.setCell ⟨M.P, 6, none⟩ (.int .i64 (m : Nat))).alloc (.cells #[.int .i64 9, .int .i64 0, .int .i64 (placeT ts i : Nat), .string ⟨#[]⟩, .int .i64 0, .int .i64 (b : Nat)] 95))) := Lib.hid (((Below.refl _ _).setCell (p := ⟨M.P, 6, none⟩) h.PB _).alloc (by simp; exact h.bsz) _)
  have bd2 : MBd ws fr (closeN S) := ⟨bd.fr, bd.parts, bd.offs, bd.wsl, by show S.nest - 1 ≤ 32; have := bd.nest; omega⟩
  have LC := Lib.hid (fun W (hW : MAt ts B M ws fr (closeN S) W) => m_lay' hW bd2 3 [] 0 i b hb)
  clear hm
  rw [show (wCells ts (.neg i b)).toArray = #[.int .i64 9, .int .i64 0, .int .i64 (placeT ts i : Nat), .string ⟨#[]⟩, .int .i64 0, .int .i64 (b : Nat)] from rfl]
  have hbx : Below w.heap.size w (w.alloc (.cells #[.int .i64 9, .int .i64 0, .int .i64 (placeT ts i : Nat), .string ⟨#[]⟩, .int .i64 0, .int .i64 (b : Nat)] 95)) := (Below.refl _ _).alloc (Nat.le_refl _) _
  have BX := Lib.hid hbx
  have H1 := Lib.hid (h.below hbx)
  have B1 := Lib.hid (hbx.mono h.bsz)
  clear h hbx
  go_enter Tryz.func39, Tryz.ntmps39
  clear H1 B1 BX
  go_wp2_with fail
  refine (LC.out _ H2.out).mono ?_
  intro e wl hV
  obtain rfl := void_ret hV
  have VL := Lib.hid hV
  clear hV
  go_wp2
  go_end0
  exact void_last VL.out (rfl) rfl B2.out
set_option maxHeartbeats 2000000 in
set_option maxRecDepth 100000 in
theorem m_step_part {ts : List Tk} {B : Nat} {M : MM} {ws : List Wn} {fr : List Nat} {S : PS} {w : World} (h : MAt ts B M ws fr S w) (hT : TOK ts) (bd : MBd ws fr S) (k : Int) (s : Bs) (i b : Nat) (hb : b ≤ fr.length) :
    Calls Tryz.prog 39 #[.pointer (some ⟨M.P, 0, none⟩), .agg (wCells ts (.part k s i b)).toArray] w (MVoid ts B M ws w (stepM ts (.part k s i b) fr S)) := by
  have HH := Lib.hid h
  have hl := hT.len
  have hp := h.pos
  have hz := h.lt
  have hwl := bd.wsl
  rw [show (wCells ts (.part k s i b)).toArray = #[.int .i64 10, .int .i64 k, .int .i64 (placeT ts i : Nat), .string ⟨s.toArray⟩, .int .i64 0, .int .i64 (b : Nat)] from rfl]
  have hbx : Below w.heap.size w (w.alloc (.cells #[.int .i64 10, .int .i64 k, .int .i64 (placeT ts i : Nat), .string ⟨s.toArray⟩, .int .i64 0, .int .i64 (b : Nat)] 95)) := (Below.refl _ _).alloc (Nat.le_refl _) _
  have BX := Lib.hid hbx
  have H1 := Lib.hid (h.below hbx)
  have B1 := Lib.hid (hbx.mono h.bsz)
  clear h hbx
  go_enter Tryz.func39, Tryz.ntmps39
  go_wp2_with fail
  refine (m_lay' H1.out bd k s 0 i b hb).mono ?_
  intro e wl hV
  obtain rfl := void_ret hV
  have VL := Lib.hid hV
  clear hV
  go_wp2
  go_end0
  exact void_last VL.out (rfl) rfl B1.out
set_option maxHeartbeats 2000000 in
set_option maxRecDepth 100000 in
theorem m_step_cmp {ts : List Tk} {B : Nat} {M : MM} {ws : List Wn} {fr : List Nat} {S : PS} {w : World} (h : MAt ts B M ws fr S w) (hT : TOK ts) (bd : MBd ws fr S) (k n : Int) (i b : Nat) (hb : b ≤ fr.length) :
    Calls Tryz.prog 39 #[.pointer (some ⟨M.P, 0, none⟩), .agg (wCells ts (.cmp k n i b)).toArray] w (MVoid ts B M ws w (stepM ts (.cmp k n i b) fr S)) := by
  have HH := Lib.hid h
  have hl := hT.len
  have hp := h.pos
  have hz := h.lt
  have hwl := bd.wsl
  rw [show (wCells ts (.cmp k n i b)).toArray = #[.int .i64 11, .int .i64 k, .int .i64 (placeT ts i : Nat), .string ⟨#[]⟩, .int .i64 n, .int .i64 (b : Nat)] from rfl]
  have hbx : Below w.heap.size w (w.alloc (.cells #[.int .i64 11, .int .i64 k, .int .i64 (placeT ts i : Nat), .string ⟨#[]⟩, .int .i64 n, .int .i64 (b : Nat)] 95)) := (Below.refl _ _).alloc (Nat.le_refl _) _
  have BX := Lib.hid hbx
  have H1 := Lib.hid (h.below hbx)
  have B1 := Lib.hid (hbx.mono h.bsz)
  clear h hbx
  go_enter Tryz.func39, Tryz.ntmps39
  go_wp2_with fail
  refine (m_lay' H1.out bd k [] n i b hb).mono ?_
  intro e wl hV
  obtain rfl := void_ret hV
  have VL := Lib.hid hV
  clear hV
  go_wp2
  go_end0
  exact void_last VL.out (rfl) rfl B1.out
set_option maxHeartbeats 2000000 in
set_option maxRecDepth 100000 in
theorem m_step_stop_end {ts : List Tk} {B : Nat} {M : MM} {ws : List Wn} {fr : List Nat} {S : PS} {w : World} (h : MAt ts B M ws fr S w) (hT : TOK ts) (bd : MBd ws fr S) (h0 : (pk ts S).kind = 0) :
    Calls Tryz.prog 39 #[.pointer (some ⟨M.P, 0, none⟩), .agg (wCells ts .stop).toArray] w (MVoid ts B M ws w (stepM ts .stop fr S)) := by
  have HH := Lib.hid h
  have hl := hT.len
  have hp := h.pos
  have hz := h.lt
  have hwl := bd.wsl
  obtain ⟨g, cap, c0, c1, hg, a0, a1, a2, a3, a4⟩ := h.tok
  have hI : (S.pos : Int) < (ts.length : Int) := by omega
  have HK := Lib.hid h0
  rw [h0] at a0
  clear h0
  rw [show (wCells ts .stop).toArray = #[.int .i64 12, .int .i64 0, .int .i64 0, .string ⟨#[]⟩, .int .i64 0, .int .i64 0] from rfl]
  have hbx : Below w.heap.size w (w.alloc (.cells #[.int .i64 12, .int .i64 0, .int .i64 0, .string ⟨#[]⟩, .int .i64 0, .int .i64 0] 95)) := (Below.refl _ _).alloc (Nat.le_refl _) _
  have BX := Lib.hid hbx
  have H1 := Lib.hid (h.below hbx)
  have B1 := Lib.hid (hbx.mono h.bsz)
  clear h hbx
  go_enter Tryz.func39, Tryz.ntmps39
  go_wp2_with fail
  go_region
  go_wp2
  go_end0
  exact void_ok (ws' := []) (fr' := fr) (S' := S) (by simp only [stepM, HK.out, if_true]) _ (by exact rfl) (H1.out.below ((Below.refl _ _).drew)) (B1.out.drew)
set_option maxHeartbeats 2000000 in
set_option maxRecDepth 100000 in
theorem m_step_stop_more {ts : List Tk} {B : Nat} {M : MM} {ws : List Wn} {fr : List Nat} {S : PS} {w : World} (h : MAt ts B M ws fr S w) (hT : TOK ts) (bd : MBd ws fr S) (h0 : ¬ (pk ts S).kind = 0) :
    Calls Tryz.prog 39 #[.pointer (some ⟨M.P, 0, none⟩), .agg (wCells ts .stop).toArray] w (MVoid ts B M ws w (stepM ts .stop fr S)) := by
  have HH := Lib.hid h
  have hl := hT.len
  have hp := h.pos
  have hz := h.lt
  have hwl := bd.wsl
  obtain ⟨g, cap, c0, c1, hg, a0, a1, a2, a3, a4⟩ := h.tok
  have hI : (S.pos : Int) < (ts.length : Int) := by omega
  have HK := Lib.hid h0
  have q0 : ((pk ts S).kind == 0) = false := by rw [beq_eq_false_iff_ne]; exact h0
  rw [show (wCells ts .stop).toArray = #[.int .i64 12, .int .i64 0, .int .i64 0, .string ⟨#[]⟩, .int .i64 0, .int .i64 0] from rfl]
  have hbx : Below w.heap.size w (w.alloc (.cells #[.int .i64 12, .int .i64 0, .int .i64 0, .string ⟨#[]⟩, .int .i64 0, .int .i64 0] 95)) := (Below.refl _ _).alloc (Nat.le_refl _) _
  have BX := Lib.hid hbx
  have H1 := Lib.hid (h.below hbx)
  have B1 := Lib.hid (hbx.mono h.bsz)
  clear h hbx
  go_enter Tryz.func39, Tryz.ntmps39
  go_wp2_with fail
  go_region
  go_wp2_with fail
  refine (m_wrong (H1.out.below ((Below.refl _ _).drew)) hT).mono ?_
  rintro e wl ⟨rfl, hf, hB⟩
  have FF := Lib.hid hf
  have BB := Lib.hid (B1.out.drew.trans hB)
  clear hB hf
  go_wp2
  go_end0
  exact void_err (f := wrongP ts S) (by simp only [stepM]; rw [if_neg HK.out]) FF.out BB.out
theorem m_step {ts : List Tk} {B : Nat} {M : MM} {ws : List Wn} {fr : List Nat} {S : PS} {w : World} (h : MAt ts B M ws fr S w) (hT : TOK ts) (bd : MBd ws fr S) (hs : fr.length ≤ 4100 ∧ S.parts.length ≤ 4100 ∧ S.offs.length ≤ 4100) (x : Wn) (hw : Wf (x :: ws) fr.length) (hn : nst x ≤ S.nest) :
    Calls Tryz.prog 39 #[.pointer (some ⟨M.P, 0, none⟩), .agg (wCells ts x).toArray] w (MVoid ts B M ws w (stepM ts x fr S)) := by
  cases x with
  | expr => exact m_step_expr h hT bd
  | conj => exact m_step_conj h hT bd
  | unit => exact m_step_unit h hT bd
  | term => exact m_step_term h hT bd hs
  | close => exact m_step_close h hT bd hn
  | stop =>
    by_cases h0 : (pk ts S).kind = 0
    · exact m_step_stop_end h hT bd h0
    · exact m_step_stop_more h hT bd h0
  | ors a b =>
    have hb := hw.1
    cases a with
    | none => exact m_step_ors_none h hT bd b (by simp only at hb; omega)
    | some i => exact m_step_ors_some h hT bd i b (by simp only at hb; omega)
  | ands a b =>
    have hb := hw.1
    cases a with
    | none => exact m_step_ands_none h hT bd b (by simp only at hb; omega)
    | some i => exact m_step_ands_some h hT bd i b (by simp only at hb; omega)
  | rel b => exact m_step_rel h hT bd b
  | neg i b => exact m_step_neg h hT bd i b (by have := hw.1; omega) hn
  | part k s i b => exact m_step_part h hT bd k s i b (by have := hw.1; omega)
  | cmp k n i b => exact m_step_cmp h hT bd k n i b (by have := hw.1; omega)

end Go.Proofs.YtfiljgkcipnghaaGreatDoor.X
set_option linter.unusedVariables false
set_option linter.unusedSimpArgs false
namespace Go.Proofs.YtfiljgkcipnghaaGreatDoor.X
open Go.RowKit
theorem tree_run (ts : List Tk) : treeOf ts = (match sem ts [.expr, .stop] [] ⟨0, 0, [], []⟩ with
    | .error f => .error f
    | .ok (_, S) => if 1000 < S.parts.length then .error (123, S.offs.getD 1000 0) else .ok (S.parts, S.offs)) := by
  rw [run_start]
  unfold treeOf
  cases (lv ts 32).expr ⟨0, 0, [], []⟩ with
  | error f => rfl
  | ok q =>
    obtain ⟨i, S⟩ := q
    simp only
    by_cases h : (pk ts S).kind = 0
    · rw [if_pos h, if_pos h]
    · rw [if_neg h, if_neg h]
theorem sem_next {ts : List Tk} {x : Wn} {ws : List Wn} {fr : List Nat} {S : PS} (hw : Wf (x :: ws) fr.length) (h5 : fr.length ≤ 5000) (h32 : S.nest ≤ 32) {ws' : List Wn} {fr' : List Nat} {S' : PS} (e : stepM ts x fr S = .ok ((ws', fr'), S')) :
    sem ts (x :: ws) fr S = sem ts (ws' ++ ws) fr' S' := by
  show bindS (semW ts x fr S) (sem ts ws) = _
  rw [step_sem ts x ws fr S hw h5 h32, e, bindS_ok, sem_append]
theorem sem_fail {ts : List Tk} {x : Wn} {ws : List Wn} {fr : List Nat} {S : PS} (hw : Wf (x :: ws) fr.length) (h5 : fr.length ≤ 5000) (h32 : S.nest ≤ 32) {f : PF} (e : stepM ts x fr S = .error f) : sem ts (x :: ws) fr S = .error f := by
  show bindS (semW ts x fr S) (sem ts ws) = _
  rw [step_sem ts x ws fr S hw h5 h32, e]
  rfl
theorem wt_pos (x : Wn) : 1 ≤ wt x := by cases x <;> simp [wt]
theorem len_wt : ∀ ws : List Wn, ws.length ≤ sumW wt ws
  | [] => Nat.le_refl _
  | x :: ws => by
    have := len_wt ws
    have := wt_pos x
    simp only [List.length_cons, sumW]; omega
theorem nst_le (x : Wn) (ws : List Wn) : nst x ≤ sumW nst (x :: ws) := by simp [sumW]
/-- A tree and its offsets, as the document's machine leaves them. -/
structure RefAt (w : World) (base : Nat) (vp vo : Value) (kv : List Value) (ps : List PD) (offs : List Nat) : Prop where
  parts : w.ownsRow base 49 4 vp ps.length (partRow ps kv)
  offs : w.ownsRow base 3 1 vo offs.length (offs.map fun i => Value.int .i64 (i : Nat))
  klen : kv.length = ps.length
  kids : ∀ i (h : i < ps.length), kidRow w base (kv.getD i undef) ps[i].kids
/-- What the document's Parse answers. -/
def RefAns (w : World) (r : Except PF (List PD × List Nat)) (e : Ending) (w' : World) : Prop := Below w.heap.size w w' ∧ match r with
  | .ok (ps, offs) => ∃ vp vo kv, e = .returned (.tuple #[.agg #[vp], vo, .agg (H.fcells 0 0 ⟨#[]⟩)]) ∧ RefAt w' w.heap.size vp vo kv ps offs
  | .error f => e = .returned (.tuple #[.agg #[.slice none 0 0], .slice none 0 0, .agg (H.fcells f.1 (f.2 : Nat) ⟨#[]⟩)])
section
attribute [-go_sem] storeCells loadCells loadCellsFrom
theorem resultsR (tmps : Array Value) (g g4 : Nat) (W : World) (a c : Value) (c1 a1 : Int) (h2 : tmps[2]?.getD undef = .pointer (some ⟨g, 0, none⟩)) (h3 : tmps[3]?.getD undef = c) (h4 : tmps[4]?.getD undef = .pointer (some ⟨g4, 0, none⟩))
    (ca : W.cell? ⟨g, 0, none⟩ = some a) (cc : W.heap[g4]? = some (.cells (H.fcells c1 a1 ⟨#[]⟩) 35 (0, 0))) : (results Tryz.f16 tmps).run Tryz.prog W = .ok (.tuple #[.agg #[a], c, .agg (H.fcells c1 a1 ⟨#[]⟩)]) W := by
  have hr : Tryz.f16.results = #[.cell 2 25, .tmp 3, .cell 4 35] := rfl
  have hl := H.l_cells W g4 35 c1 a1 ⟨#[]⟩ cc
  have h1 : (loadCells ⟨g, 0, none⟩ 1).run Tryz.prog W = .ok #[a] W := by
    have h := run_loadCells_list (P := Tryz.prog) W ⟨g, 0, none⟩ [a] (fun j v hv => by
      have hadd : (⟨g, 0, none⟩ : Addr).add j = ⟨g, j, none⟩ := by unfold Addr.add; split <;> simp_all
      rw [hadd]
      match j, hv with
      | 0, hv => obtain rfl := Option.some.inj hv; exact ca)
    exact h
  simp [h1, results, hr, h2, h3, h4, go_sem, ca, hl]
end

end Go.Proofs.YtfiljgkcipnghaaGreatDoor.X
set_option linter.unusedVariables false
set_option linter.unusedSimpArgs false
namespace Go.Proofs.YtfiljgkcipnghaaGreatDoor.X
open Go.RowKit
theorem st1g (w : World) (g : Nat) (u : Value) (a : Option Addr) (n c : Nat) (h : w.cell? ⟨g, 0, none⟩ = some u) (hf : w.frozen? ⟨g, 0, none⟩ = false) : (storeCells ⟨g, 0, none⟩ [.slice a n c]).run Tryz.prog w = .ok () (w.setCell ⟨g, 0, none⟩ (.slice a n c)) := by
  simp [go_sem, h, hf]
theorem st1v (w : World) (b j : Nat) (u : Value) (a : Option Addr) (n c : Nat) (h : w.cell? ⟨b, j, none⟩ = some u) (hf : w.frozen? ⟨b, j, none⟩ = false) : (storeCells ⟨b, j, none⟩ [.slice a n c]).run Tryz.prog w = .ok () (w.setCell ⟨b, j, none⟩ (.slice a n c)) := by
  simp [go_sem, h, hf]
/-- The two results in their variables. -/
structure RB (g : Nat) (W : World) : Prop where
  tree : W.heap[g]? = some (.cells #[.slice none 0 0] 25 (0, 0))
  flt : W.heap[g + 1]? = some (.cells (H.fcells 0 0 ⟨#[]⟩) 35 (0, 0))
theorem RB.below {g : Nat} {W W' : World} (h : RB g W) (k : Below W.heap.size W W') : RB g W' :=
  ⟨(k.block _ (Array.getElem?_eq_some_iff.1 h.tree).1).trans h.tree, (k.block _ (Array.getElem?_eq_some_iff.1 h.flt).1).trans h.flt⟩
theorem RB.kept {g B : Nat} {W W' : World} (h : RB g W) (k : Below B W W') (hB : g + 1 < B) : RB g W' :=
  ⟨(k.block _ (by omega)).trans h.tree, (k.block _ hB).trans h.flt⟩
theorem RB.new (w : World) : RB w.heap.size ((w.alloc (.cells #[.slice none 0 0] 25)).alloc (.cells (H.fcells 0 0 ⟨#[]⟩) 35)) :=
  ⟨(Below.heap_alloc _ _ _ (by simp)).trans (heap_alloc_new w _), Go.heap_alloc2_new _ _ _⟩
section
attribute [-go_sem] storeCells loadCells loadCellsFrom
set_option maxHeartbeats 4000000 in
set_option maxRecDepth 100000 in
theorem rp_scan (s : ByteArray) (w : World) (hs : s.size ≤ 9223372036854775807) (ts : List Tk) (f : Int × Nat) (hsc : scanL s.data.toList = (ts, some f)) (hf : f.1 ≠ 0) :
    Calls Tryz.prog 16 #[.string s] w (RefAns w (.error f)) := by
  have SC := Lib.hid (fun W => refScan_any s W hs)
  rw [hsc] at SC
  have R0 := Lib.hid (RB.new w)
  have B0 := Lib.hid (((Below.refl w.heap.size w).alloc (Nat.le_refl _) (.cells #[.slice none 0 0] 25)).alloc (by simp) (.cells (H.fcells 0 0 ⟨#[]⟩) 35))
  go_enter Tryz.func16, Tryz.ntmps16
  go_wp2_with fail
  refine (SC.out _).mono ?_
  rintro e w1 ⟨v, hT, hB, rfl⟩
  have R1 := Lib.hid (R0.out.below hB)
  have B1 := Lib.hid (B0.out.trans (hB.mono B0.out.size))
  have hc0 : (codeOf (some f) == 0) = false := by rw [beq_eq_false_iff_ne]; exact hf
  have t1 : w1.cell? ⟨w.heap.size, 0, none⟩ = some (.slice none 0 0) := (Lib.cell_of_heap R1.out.tree _).trans rfl
  have tf : w1.frozen? ⟨w.heap.size, 0, none⟩ = false := by simp [World.frozen?, R1.out.tree]
  have s1 := st1g w1 w.heap.size _ none 0 0 t1 tf
  have h2 : (w1.setCell ⟨w.heap.size, 0, none⟩ (.slice none 0 0)).heap[w.heap.size + 1]? = some (.cells (H.fcells 0 0 ⟨#[]⟩) 35 (0, 0)) := (heap_setCell_other _ _ _ _ (by simp)).trans R1.out.flt
  have s2 : ∀ c a : Int, (storeCells ⟨w.heap.size + 1, 0, none⟩ (H.flist c a ⟨#[]⟩)).run Tryz.prog (w1.setCell ⟨w.heap.size, 0, none⟩ (.slice none 0 0)) = .ok () ((w1.setCell ⟨w.heap.size, 0, none⟩ (.slice none 0 0)).setRow (w.heap.size + 1) (H.fcells c a ⟨#[]⟩)) := fun c a => H.s_cells _ _ _ c a 0 0 _ _ h2
  have HH2 := Lib.hid h2
  clear hB hT h2
  go_wp2
  have g2 : ((w1.setCell ⟨w.heap.size, 0, none⟩ (.slice none 0 0)).setRow (w.heap.size + 1) (H.fcells (codeOf (some f)) (placeOf (some f)) ⟨#[]⟩)).heap[w.heap.size]? = some (.cells #[.slice none 0 0] 25 (0, 0)) := (setRow_other _ _ _ _ (by omega)).trans (heap_setCell_same _ _ _ _ _ _ R1.out.tree)
  refine bodyPost_ret (resultsR _ w.heap.size (w.heap.size + 1) _ (.slice none 0 0) (.slice none 0 0) (codeOf (some f)) (placeOf (some f)) rfl rfl rfl ((Lib.cell_of_heap g2 _).trans rfl) (setRow_heap _ _ _ _ _ _ HH2.out)) rfl ⟨?_, rfl⟩
  exact (B1.out.setCell (p := ⟨w.heap.size, 0, none⟩) (Nat.le_refl _) _).trans ⟨rfl, rfl, rfl, by simp [World.setRow], fun k hk => setRow_other _ _ _ _ (by omega)⟩
theorem ld6 {w : World} {g o : Nat} {k kd at_ nm bs : Int} {s : ByteArray} (h : ∀ j u, [Value.int .i64 k, .int .i64 kd, .int .i64 at_, .string s, .int .i64 nm, .int .i64 bs][j]? = some u → w.cell? ⟨g, o + j, none⟩ = some u) :
    (loadCells ⟨g, o, none⟩ 6).run Tryz.prog w = .ok #[.int .i64 k, .int .i64 kd, .int .i64 at_, .string s, .int .i64 nm, .int .i64 bs] w := by
  have h := run_loadCells_list (P := Tryz.prog) w ⟨g, o, none⟩ [.int .i64 k, .int .i64 kd, .int .i64 at_, .string s, .int .i64 nm, .int .i64 bs] (fun j v hv => by
    have hadd : (⟨g, o, none⟩ : Addr).add j = ⟨g, o + j, none⟩ := by unfold Addr.add; split <;> simp_all
    rw [hadd]; exact h j v hv)
  exact h
theorem s6 (W : World) (g : Nat) (k kd at_ nm bs : Int) (s : ByteArray) (hg : W.heap[g]? = some (.cells #[.int .i64 0, .int .i64 0, .int .i64 0, .string ⟨#[]⟩, .int .i64 0, .int .i64 0] 95 (0, 0))) :
    (storeCells ⟨g, 0, none⟩ [.int .i64 k, .int .i64 kd, .int .i64 at_, .string s, .int .i64 nm, .int .i64 bs]).run Tryz.prog W = .ok () (W.setRow g #[.int .i64 k, .int .i64 kd, .int .i64 at_, .string s, .int .i64 nm, .int .i64 bs]) := by
  have h := run_storeCells_from (P := Tryz.prog) g 95 [.int .i64 k, .int .i64 kd, .int .i64 at_, .string s, .int .i64 nm, .int .i64 bs] 0 _ W hg (by rfl) (fun v hv => by simp only [List.mem_cons, List.not_mem_nil, or_false] at hv; rcases hv with rfl | rfl | rfl | rfl | rfl | rfl <;> rfl)
  simpa using h
theorem s6n (w : World) (k kd at_ nm bs : Int) (s : ByteArray) : (storeCells ⟨w.heap.size, 0, none⟩ [.int .i64 k, .int .i64 kd, .int .i64 at_, .string s, .int .i64 nm, .int .i64 bs]).run Tryz.prog (w.alloc (.cells #[.int .i64 0, .int .i64 0, .int .i64 0, .string ⟨#[]⟩, .int .i64 0, .int .i64 0] 95)) = .ok () (w.alloc (.cells #[.int .i64 k, .int .i64 kd, .int .i64 at_, .string s, .int .i64 nm, .int .i64 bs] 95)) := by
  rw [s6 _ _ _ _ _ _ _ _ (heap_alloc_new w _), H.setRow_last]
theorem s6d (w : World) (k kd at_ nm bs : Int) (s : ByteArray) : (storeCells ⟨w.heap.size, 0, none⟩ [.int .i64 k, .int .i64 kd, .int .i64 at_, .string s, .int .i64 nm, .int .i64 bs]).run Tryz.prog (w.alloc (.cells #[.int .i64 0, .int .i64 0, .int .i64 0, .string ⟨#[]⟩, .int .i64 0, .int .i64 0] 95)).drew = .ok () (w.alloc (.cells #[.int .i64 k, .int .i64 kd, .int .i64 at_, .string s, .int .i64 nm, .int .i64 bs] 95)).drew := by
  have h := s6 (w.alloc (.cells #[.int .i64 0, .int .i64 0, .int .i64 0, .string ⟨#[]⟩, .int .i64 0, .int .i64 0] 95)).drew w.heap.size k kd at_ nm bs s (heap_alloc_new w _)
  rw [h, H.setRow_drew, H.setRow_last]
attribute [local go_sem] s6n s6d
theorem fault_load {w : World} {P : Nat} {pre : List Value} {c a : Int} (hp : pre.length = 7) (h : w.heap[P]? = some (.cells (pre ++ H.flist c a ⟨#[]⟩).toArray 92 (0, 0))) : (loadCells ⟨P, 7, none⟩ 19).run Tryz.prog w = .ok (H.fcells c a ⟨#[]⟩) w := by
  have h1 := run_loadCells_list (P := Tryz.prog) w ⟨P, 7, none⟩ (H.flist c a ⟨#[]⟩) (fun j v hv => by
    have hadd : (⟨P, 7, none⟩ : Addr).add j = ⟨P, 7 + j, none⟩ := by unfold Addr.add; split <;> simp_all
    rw [hadd, Lib.cell_of_heap h, ← Array.getElem?_toList]
    show (pre ++ H.flist c a ⟨#[]⟩)[7 + j]? = some v
    rw [List.getElem?_append_right (by omega), hp, Nat.add_sub_cancel_left]
    exact hv)
  exact h1
theorem run_code {ts : List Tk} {f : PF} (h : sem ts [.expr, .stop] [] ⟨0, 0, [], []⟩ = .error f) : f.1 ≠ 0 := by
  rw [run_start] at h
  have hg : GoodE ts f := by
    cases hx : (lv ts 32).expr ⟨0, 0, [], []⟩ with
    | error e =>
      rw [hx] at h
      injection h with h
      subst h
      exact (lv_good ts 32 (Nat.le_refl _)).expr _ _ rfl hx
    | ok q =>
      rw [hx] at h
      obtain ⟨i, S⟩ := q
      simp only at h
      split at h
      · cases h
      · injection h with h; rw [← h]; exact wrong_good ts S
  rcases hg with ⟨h1, _⟩ | ⟨h1 | h1 | h1, _⟩ <;> omega
theorem own_moved {w w' : World} {B B' e sz n : Nat} {v : Value} {xs : List Value} (h : w.ownsRow B e sz v n xs) (hk : ∀ k, B ≤ k → w'.heap[k]? = w.heap[k]?) (hb : B' ≤ B) : w'.ownsRow B' e sz v n xs := by
  refine ⟨h.1, ?_⟩
  rcases h.2 with h2 | ⟨g', cap, cur, h3, h4, h5, h6⟩
  · exact .inl h2
  · exact .inr ⟨g', cap, cur, h3, by omega, (hk _ h4).trans h5, h6⟩
theorem at_cell {w : World} {B n : Nat} {A : Option Addr} {c : Nat} {ts : List Tk} {xs : List Nat} (h : w.ownsRow B 3 1 (.slice A n c) n (xs.map fun i => Value.int .i64 (placeT ts i : Nat))) {j : Nat} (hj : j < n) : ∃ g, A = some ⟨g, 0, none⟩ ∧ g < w.heap.size ∧ w.cell? ⟨g, j, none⟩ = some (.int .i64 (placeT ts (xs.getD j 0) : Nat)) := by
  have hl : xs.length = n := by have := h.1; simpa using this
  rcases h.2 with ⟨h3, h4⟩ | ⟨g, cap, cur, h3, h4, h5, h6, h7, h8, h9⟩
  · omega
  · injection h3 with h3
    refine ⟨g, h3, (Array.getElem?_eq_some_iff.1 h5).1, ?_⟩
    rw [Lib.cell_of_heap h5 j]
    have e : cur.toList[j]? = (xs.map fun i => Value.int .i64 (placeT ts i : Nat))[j]? := by rw [← h9, List.getElem?_take, if_pos (by omega)]
    rw [← Array.getElem?_toList, e]
    simp [List.getElem?_map, List.getD_eq_getElem?_getD, List.getElem?_eq_getElem (show j < xs.length by omega)]
theorem scanL_code {l : Bs} {c : Int} {a : Nat} (h : (scanL l).2 = some (c, a)) : c ≠ 0 := by
  unfold scanL at h
  split at h
  · exact prefix_code (l := l) (ts := (prefixL l).1) (Prod.ext rfl h)
  · exact prefix_code (l := l) (ts := (prefixL l).1) (Prod.ext rfl h)
/-- What holds between two rounds of the machine's run. -/
structure Rnd (ts : List Tk) (w : World) (R : PR (List Nat)) (P : Nat) (k : Nat) (ws : List Wn) (fr : List Nat) (S : PS) (M1 : MM) (wr : World) : Prop where
  at_ : MAt ts P M1 ws fr S wr
  hP : M1.P = P
  run : RunI ws fr S
  eq : sem ts ws fr S = R
  low : w.heap.size + 1 < P
  bel : Below w.heap.size w wr
  res : RB w.heap.size wr
  num : k = 10 * (ts.length - S.pos) + sumW wt ws
  few : k ≤ 41000
set_option maxHeartbeats 8000000 in
set_option maxRecDepth 100000 in
theorem rp_run (s : ByteArray) (w : World) (hs : s.size ≤ 9223372036854775807) (ts : List Tk) (hsc : scanL s.data.toList = (ts, none)) (RES : Except PF (List PD × List Nat)) (hRES : RES = match treeOf ts with | .error f => .error (f.1, placeT ts f.2) | .ok (ps, offs) => .ok (ps, offs.map (placeT ts))) :
    Calls Tryz.prog 16 #[.string s] w (RefAns w RES) := by
  have SC := Lib.hid (fun W => refScan_any s W hs)
  rw [hsc] at SC
  obtain ⟨hT, htp⟩ := scan_TOK hsc
  have hl := hT.len
  have R0 := Lib.hid (RB.new w)
  have B0 := Lib.hid (((Below.refl w.heap.size w).alloc (Nat.le_refl _) (.cells #[.slice none 0 0] 25)).alloc (by simp) (.cells (H.fcells 0 0 ⟨#[]⟩) 35))
  obtain ⟨R, hR⟩ : ∃ R, R = sem ts [.expr, .stop] [] ⟨0, 0, [], []⟩ := ⟨_, rfl⟩
  rw [tree_run, ← hR] at hRES
  have HR0 := Lib.hid hR
  have HRES := Lib.hid hRES
  clear hsc hR hRES
  go_enter Tryz.func16, Tryz.ntmps16
  go_wp2_with fail
  refine (SC.out _).mono ?_
  rintro e w1 ⟨v, hTK, hB, rfl⟩
  obtain ⟨At, ct, rfl⟩ := own_shape hTK
  have R1 := Lib.hid (R0.out.below hB)
  have B1 := Lib.hid (B0.out.trans (hB.mono B0.out.size))
  have hc0 : (codeOf none == 0) = true := rfl
  have hz1 : w.heap.size + 1 < w1.heap.size := (Array.getElem?_eq_some_iff.1 R1.out.flt).1
  have h0 : MAt ts w1.heap.size ⟨w1.heap.size, .slice At ts.length ct, .slice none 0 0, .slice none 0 0, .slice none 0 0, .slice none 0 0, []⟩ [] [] ⟨0, 0, [], []⟩ (w1.alloc (.cells (mcells ⟨w1.heap.size, .slice At ts.length ct, .slice none 0 0, .slice none 0 0, .slice none 0 0, .slice none 0 0, []⟩ 0 0) 92)) := by
    refine ⟨⟨(tokAt_of_own hTK).kept ((Below.refl _ _).alloc (Nat.le_refl _) _), fun k hk => ?_, ⟨rfl, .inl ⟨rfl, rfl⟩⟩, ⟨rfl, .inl ⟨rfl, rfl⟩⟩, ⟨rfl, .inl ⟨rfl, rfl⟩⟩, ⟨rfl, .inl ⟨rfl, rfl⟩⟩, rfl, fun i hi => absurd hi (Nat.not_lt_zero _), ?_, by simp⟩, heap_alloc_new w1 _, Nat.le_refl _, htp⟩
    · obtain ⟨_, cs, hc⟩ := own_type hTK hk
      exact (Array.getElem?_eq_some_iff.1 hc).1
    · simp [Value.ownBlock]
  have H0 := Lib.hid h0
  clear hB hTK h0
  go_wp2_with fail
  refine (m_push H0.out .stop (by simp)).mono ?_
  rintro e w2 ⟨rfl, q1, hA, hB⟩
  have H2 := Lib.hid hA
  have B2 := Lib.hid (((Below.refl w1.heap.size w1).alloc (Nat.le_refl _) _).trans hB)
  clear hA hB
  go_wp2_with fail
  refine (m_push H2.out .expr (by simp)).mono ?_
  rintro e w3 ⟨rfl, q2, hA, hB⟩
  have H3 := Lib.hid hA
  have B3 := Lib.hid (B2.out.trans hB)
  clear hA hB
  have R3 := Lib.hid (Rnd.mk (R := sem ts [.expr, .stop] [] ⟨0, 0, [], []⟩) H3.out rfl ⟨trivial, by simp [sumW, pnd], by simp, rfl, by simp [sumW, nst], by simp⟩ rfl hz1 (B1.out.trans (B3.out.mono (by omega))) (R1.out.kept B3.out hz1) rfl (by simp [sumW, wt]; omega))
  rw [← HR0.out] at R3
  go_wp2
  go_loopg [9] (10 * (ts.length - 0) + sumW wt [.expr, .stop]) (fun k v wr => ∃ ws fr S M1, Hid (Rnd ts w R w1.heap.size k ws fr S M1 wr))
  case atStart => exact ⟨_, _, _, _, R3⟩
  case round =>
    obtain ⟨ws, fr, S, M1, HR⟩ := hrel
    obtain ⟨P1, vt1, vw1, vp1, vo1, vf1, kv1⟩ := M1
    obtain rfl : P1 = w1.heap.size := HR.out.hP
    have hzr := HR.out.at_.lt
    dsimp only at hzr
    have cfm := HR.out.at_.cf
    dsimp only at cfm
    cases ws with
    | nil =>
      have hRok : R = .ok (fr, S) := HR.out.eq.symm
      obtain ⟨Aw, cw, hvw⟩ := own_shape HR.out.at_.rows.wants
      obtain ⟨Ap, cp, hvp⟩ := own_shape HR.out.at_.rows.parts
      obtain ⟨Ao, co, hvo⟩ := own_shape HR.out.at_.rows.ats
      dsimp only at hvw hvp hvo
      subst hvw hvp hvo
      have c2 : wr.cell? ⟨w1.heap.size, 2, none⟩ = some (.slice Aw 0 cw) := HR.out.at_.c2
      have c3 : wr.cell? ⟨w1.heap.size, 3, none⟩ = some (.slice Ap S.parts.length cp) := HR.out.at_.c3
      have c4 : wr.cell? ⟨w1.heap.size, 4, none⟩ = some (.slice Ao S.offs.length co) := HR.out.at_.c4
      have hrun := HR.out.run
      have hpa := hrun.parts
      have hof := hrun.offs
      have hpos := HR.out.at_.pos
      have hRBr := HR.out.res
      have HRE := Lib.hid hRok
      have t1 : wr.drew.cell? ⟨w.heap.size, 0, none⟩ = some (.slice none 0 0) := (Lib.cell_of_heap (w := wr) hRBr.tree _).trans rfl
      have tf : wr.drew.frozen? ⟨w.heap.size, 0, none⟩ = false := by simp [World.frozen?, show wr.drew.heap[w.heap.size]? = _ from hRBr.tree]
      have h3 : ∀ (a : Option Addr) (n c : Nat), ((wr.setCell ⟨w.heap.size, 0, none⟩ (.slice a n c)).drew).heap[w.heap.size + 1]? = some (.cells (H.fcells 0 0 ⟨#[]⟩) 35 (0, 0)) := fun a n c => (heap_setCell_other wr _ _ _ (by simp)).trans hRBr.flt
      have H3h := Lib.hid h3
      have RBh := Lib.hid hRBr
      have hzz : w.heap.size < wr.heap.size := (Array.getElem?_eq_some_iff.1 hRBr.tree).1
      have hI0 : ¬ ((0 : Int) > 0) := by decide
      by_cases hbig : 1000 < S.parts.length
      · have hJ : (S.parts.length : Int) > 1000 := by omega
        have hJ2 : (1000 : Int) < (S.parts.length : Int) := by omega
        have hJ3 : (1000 : Int) < (S.offs.length : Int) := by omega
        obtain ⟨go, hgo, hgol, hcell⟩ := at_cell HR.out.at_.rows.ats (j := 1000) (by omega)
        subst hgo
        have s1 := st1v wr.drew w.heap.size 0 _ none 0 0 t1 tf
        have s3 : ∀ c a : Int, (storeCells ⟨w.heap.size + 1, 0, none⟩ (H.flist c a ⟨#[]⟩)).run Tryz.prog ((wr.setCell ⟨w.heap.size, 0, none⟩ (.slice none 0 0)).drew) = .ok () (((wr.setCell ⟨w.heap.size, 0, none⟩ (.slice none 0 0)).drew).setRow (w.heap.size + 1) (H.fcells c a ⟨#[]⟩)) := fun c a => H.s_cells _ _ _ c a 0 0 _ _ (h3 none 0 0)
        clear hRok h3 hRBr hof hrun
        go_wp2_with fail
        go_region
        all_goals go_wp2
        have g2 : ((wr.setCell ⟨w.heap.size, 0, none⟩ (.slice none 0 0)).drew.setRow (w.heap.size + 1) (H.fcells 123 (placeT ts (S.offs[1000]?.getD 0) : Nat) ⟨#[]⟩)).heap[w.heap.size]? = some (.cells #[.slice none 0 0] 25 (0, 0)) := (setRow_other _ _ _ _ (by omega)).trans (heap_setCell_same wr _ _ _ _ _ RBh.out.tree)
        refine bodyPost_ret (resultsR _ w.heap.size (w.heap.size + 1) _ (.slice none 0 0) (.slice none 0 0) 123 (placeT ts (S.offs[1000]?.getD 0) : Nat) (by rfl) (by rfl) (by rfl) ((Lib.cell_of_heap g2 _).trans rfl) (setRow_heap _ _ _ _ _ _ (H3h.out none 0 0))) rfl ?_
        rw [HRES.out, HRE.out]
        simp only [if_pos hbig]
        refine ⟨((HR.out.bel.setCell (p := ⟨w.heap.size, 0, none⟩) (Nat.le_refl _) _).drew).trans ⟨rfl, rfl, rfl, by simp [World.setRow], fun k hk => setRow_other _ _ _ _ (by omega)⟩, ?_⟩
        rw [List.getD_eq_getElem?_getD]
      · have hJ : ¬ (S.parts.length : Int) > 1000 := by omega
        have hJ2 : ¬ (1000 : Int) < (S.parts.length : Int) := by omega
        have s1 := st1v wr.drew w.heap.size 0 _ Ap S.parts.length cp t1 tf
        have s3 : ∀ c a : Int, (storeCells ⟨w.heap.size + 1, 0, none⟩ (H.flist c a ⟨#[]⟩)).run Tryz.prog ((wr.setCell ⟨w.heap.size, 0, none⟩ (.slice Ap S.parts.length cp)).drew) = .ok () (((wr.setCell ⟨w.heap.size, 0, none⟩ (.slice Ap S.parts.length cp)).drew).setRow (w.heap.size + 1) (H.fcells c a ⟨#[]⟩)) := fun c a => H.s_cells _ _ _ c a 0 0 _ _ (h3 Ap S.parts.length cp)
        clear hRok h3 hRBr hof hrun
        go_wp2_with fail
        go_region
        all_goals go_wp2
        have g2 : ((wr.setCell ⟨w.heap.size, 0, none⟩ (.slice Ap S.parts.length cp)).drew.setRow (w.heap.size + 1) (H.fcells 0 0 ⟨#[]⟩)).heap[w.heap.size]? = some (.cells #[.slice Ap S.parts.length cp] 25 (0, 0)) := (setRow_other _ _ _ _ (by omega)).trans (heap_setCell_same wr _ _ _ _ _ RBh.out.tree)
        refine bodyPost_ret (resultsR _ w.heap.size (w.heap.size + 1) _ (.slice Ap S.parts.length cp) (.slice Ao S.offs.length co) 0 0 (by rfl) (by rfl) (by rfl) ((Lib.cell_of_heap g2 _).trans rfl) (setRow_heap _ _ _ _ _ _ (H3h.out Ap S.parts.length cp))) rfl ?_
        rw [HRES.out, HRE.out]
        simp only [if_neg hbig]
        have kb : Below (w.heap.size + 2) wr ((wr.setCell ⟨w.heap.size, 0, none⟩ (.slice Ap S.parts.length cp)).drew.setRow (w.heap.size + 1) (H.fcells 0 0 ⟨#[]⟩)) → True := fun _ => trivial
        have keepR : ∀ k, w1.heap.size ≤ k → ((wr.setCell ⟨w.heap.size, 0, none⟩ (.slice Ap S.parts.length cp)).drew.setRow (w.heap.size + 1) (H.fcells 0 0 ⟨#[]⟩)).heap[k]? = wr.heap[k]? := fun k hk => (setRow_other _ _ _ _ (by omega)).trans (heap_setCell_other wr _ _ _ (by simp; omega))
        have kr : ∀ {e sz n : Nat} {v : Value} {xs : List Value}, wr.ownsRow w1.heap.size e sz v n xs → ((wr.setCell ⟨w.heap.size, 0, none⟩ (.slice Ap S.parts.length cp)).drew.setRow (w.heap.size + 1) (H.fcells 0 0 ⟨#[]⟩)).ownsRow w.heap.size e sz v n xs := fun h => own_moved h keepR (by omega)
        refine ⟨((HR.out.bel.setCell (p := ⟨w.heap.size, 0, none⟩) (Nat.le_refl _) _).drew).trans ⟨rfl, rfl, rfl, by simp [World.setRow], fun k hk => setRow_other _ _ _ _ (by omega)⟩, _, _, kv1, rfl, kr HR.out.at_.rows.parts, ?_, HR.out.at_.rows.klen, fun i hi => kr (HR.out.at_.rows.kids i hi)⟩
        have h := kr HR.out.at_.rows.ats
        rw [List.length_map, List.map_map]
        exact h
    | cons x ws =>
      obtain ⟨g, cap, hvw, hcap, hcapm, hgz, hcell, hpop⟩ := HR.out.at_.pop
      dsimp only at hvw hpop
      subst hvw
      obtain ⟨k, kd, at_, tx, nm, bs, hwc⟩ := wCells_form ts x
      rw [hwc] at hcell
      have cw : wr.cell? ⟨w1.heap.size, 2, none⟩ = some (.slice (some ⟨g, 0, none⟩) (ws.length + 1) cap) := HR.out.at_.c2
      have l6 := ld6 (w := wr) (g := g) (o := ws.length * 6) (k := k) (kd := kd) (at_ := at_) (nm := nm) (bs := bs) (s := ⟨tx.toArray⟩) hcell
      have kb1 : Below wr.heap.size wr wr.drew := (Below.refl _ _).drew
      have kb2 : Below wr.heap.size wr (wr.alloc (.cells #[.int .i64 0, .int .i64 0, .int .i64 0, .string ⟨#[]⟩, .int .i64 0, .int .i64 0] 95)).drew := ((Below.refl _ _).alloc (Nat.le_refl _) _).drew
      have l6d := ld6 (w := wr.drew) (g := g) (o := ws.length * 6) (k := k) (kd := kd) (at_ := at_) (nm := nm) (bs := bs) (s := ⟨tx.toArray⟩) (fun j u hu => cell_b kb1 (hcell j u hu))
      have l6a := ld6 (w := (wr.alloc (.cells #[.int .i64 0, .int .i64 0, .int .i64 0, .string ⟨#[]⟩, .int .i64 0, .int .i64 0] 95)).drew) (g := g) (o := ws.length * 6) (k := k) (kd := kd) (at_ := at_) (nm := nm) (bs := bs) (s := ⟨tx.toArray⟩) (fun j u hu => cell_b kb2 (hcell j u hu))
      have HWC := Lib.hid hwc
      have HPOP := Lib.hid hpop
      have en : ((ws.length : Int) + 1 - 1) = (ws.length : Nat) := by omega
      have hwl : ws.length ≤ 100000 := by
        have h1 := len_wt (x :: ws)
        have h2 := HR.out.num
        have h3 := HR.out.few
        simp only [List.length_cons] at h1
        omega
      have hwc2 : ws.length ≤ cap := by omega
      have hI : ((ws.length : Int) + 1) > 0 := by omega
      have KB : Below wr.heap.size wr (wr.alloc (.cells #[.int .i64 k, .int .i64 kd, .int .i64 at_, .string ⟨tx.toArray⟩, .int .i64 nm, .int .i64 bs] 95)).drew.drew := (((Below.refl _ _).alloc (Nat.le_refl _) _).drew).drew
      have cw2 : ((wr.alloc (.cells #[.int .i64 k, .int .i64 kd, .int .i64 at_, .string ⟨tx.toArray⟩, .int .i64 nm, .int .i64 bs] 95)).drew.drew).cell? ⟨w1.heap.size, 2, none⟩ = some (.slice (some ⟨g, 0, none⟩) (ws.length + 1) cap) := cell_b KB cw
      have cf2 : ((wr.alloc (.cells #[.int .i64 k, .int .i64 kd, .int .i64 at_, .string ⟨tx.toArray⟩, .int .i64 nm, .int .i64 bs] 95)).drew.drew).frozen? ⟨w1.heap.size, 2, none⟩ = false := (HR.out.at_.below KB).cf 2
      have hst2 := st1v ((wr.alloc (.cells #[.int .i64 k, .int .i64 kd, .int .i64 at_, .string ⟨tx.toArray⟩, .int .i64 nm, .int .i64 bs] 95)).drew.drew) w1.heap.size 2 _ (some ⟨g, 0, none⟩) ws.length cap cw2 cf2
      have hp2 : MAt ts w1.heap.size ⟨w1.heap.size, vt1, (.slice (some ⟨g, 0, none⟩) ws.length cap), vp1, vo1, vf1, kv1⟩ ws fr S (((wr.setCell ⟨w1.heap.size, 2, none⟩ (.slice (some ⟨g, 0, none⟩) ws.length cap)).alloc (.cells #[.int .i64 k, .int .i64 kd, .int .i64 at_, .string ⟨tx.toArray⟩, .int .i64 nm, .int .i64 bs] 95)).drew.drew) := hpop.below ((((Below.refl _ _).alloc (Nat.le_refl _) _).drew).drew)
      have hs10 : (wr.setCell ⟨w1.heap.size, 2, none⟩ (.slice (some ⟨g, 0, none⟩) ws.length cap)).heap.size = wr.heap.size := by simp
      have hb10 : (((wr.setCell ⟨w1.heap.size, 2, none⟩ (.slice (some ⟨g, 0, none⟩) ws.length cap)).alloc (.cells #[.int .i64 k, .int .i64 kd, .int .i64 at_, .string ⟨tx.toArray⟩, .int .i64 nm, .int .i64 bs] 95)).drew.drew).heap[wr.heap.size]? = some (.cells #[.int .i64 k, .int .i64 kd, .int .i64 at_, .string ⟨tx.toArray⟩, .int .i64 nm, .int .i64 bs] 95 (0, 0)) := by
        have h := heap_alloc_new (wr.setCell ⟨w1.heap.size, 2, none⟩ (.slice (some ⟨g, 0, none⟩) ws.length cap)) (.cells #[.int .i64 k, .int .i64 kd, .int .i64 at_, .string ⟨tx.toArray⟩, .int .i64 nm, .int .i64 bs] 95)
        rw [hs10] at h
        exact h
      have bel10 : Below w1.heap.size w1 wr → Below w1.heap.size w1 (((wr.setCell ⟨w1.heap.size, 2, none⟩ (.slice (some ⟨g, 0, none⟩) ws.length cap)).alloc (.cells #[.int .i64 k, .int .i64 kd, .int .i64 at_, .string ⟨tx.toArray⟩, .int .i64 nm, .int .i64 bs] 95)).drew.drew) := fun h => (((h.setCell (p := ⟨w1.heap.size, 2, none⟩) (Nat.le_refl _) _).alloc (by rw [hs10]; omega) _).drew).drew
      have bw10 : Below w.heap.size w (((wr.setCell ⟨w1.heap.size, 2, none⟩ (.slice (some ⟨g, 0, none⟩) ws.length cap)).alloc (.cells #[.int .i64 k, .int .i64 kd, .int .i64 at_, .string ⟨tx.toArray⟩, .int .i64 nm, .int .i64 bs] 95)).drew.drew) := (((HR.out.bel.setCell (p := ⟨w1.heap.size, 2, none⟩) (by show w.heap.size ≤ w1.heap.size; omega) _).alloc (by rw [hs10]; omega) _).drew).drew
      have res10 : RB w.heap.size (((wr.setCell ⟨w1.heap.size, 2, none⟩ (.slice (some ⟨g, 0, none⟩) ws.length cap)).alloc (.cells #[.int .i64 k, .int .i64 kd, .int .i64 at_, .string ⟨tx.toArray⟩, .int .i64 nm, .int .i64 bs] 95)).drew.drew) := by
        have h1 := HR.out.res
        have h2 : RB w.heap.size (wr.setCell ⟨w1.heap.size, 2, none⟩ (.slice (some ⟨g, 0, none⟩) ws.length cap)) := ⟨(heap_setCell_other _ _ _ _ (by simp; omega)).trans h1.tree, (heap_setCell_other _ _ _ _ (by simp; omega)).trans h1.flt⟩
        exact h2.below ((((Below.refl _ _).alloc (Nat.le_refl _) _).drew).drew)
      have H10 := Lib.hid hp2
      have BW10 := Lib.hid bw10
      have RS10 := Lib.hid res10
      have l6b := ld6 (w := ((wr.setCell ⟨w1.heap.size, 2, none⟩ (.slice (some ⟨g, 0, none⟩) ws.length cap)).alloc (.cells #[.int .i64 k, .int .i64 kd, .int .i64 at_, .string ⟨tx.toArray⟩, .int .i64 nm, .int .i64 bs] 95)).drew.drew) (g := wr.heap.size) (o := 0) (k := k) (kd := kd) (at_ := at_) (nm := nm) (bs := bs) (s := ⟨tx.toArray⟩) (fun j u hu => (Lib.cell_of_heap hb10 _).trans (by simpa using hu))
      clear hwc hpop hcell kb1 kb2 KB hp2 cw2 cf2 hb10 hs10 bel10 bw10 res10
      go_wp2_with fail
      go_region
      · go_wp2_with fail
        go_region
        · go_wp2_with fail
          have hrun := HR.out.run
          have hfr := hrun.free
          have hpa := hrun.parts
          have hof := hrun.offs
          have hpos := H10.out.pos
          have hsx : fr.length ≤ 4100 ∧ S.parts.length ≤ 4100 ∧ S.offs.length ≤ 4100 := ⟨by omega, by omega, by omega⟩
          have STP := m_step H10.out hT ⟨by omega, by omega, by omega, hwl, hrun.n32⟩ hsx x hrun.wf (by rw [hrun.nest]; exact nst_le x ws)
          rw [HWC.out] at STP
          refine STP.mono ?_
          intro e w4 hV
          obtain ⟨f, hst⟩ | ⟨⟨⟨ws', fr'⟩, S'⟩, hst⟩ := exc_cases (stepM ts x fr S)
          · have hRe : R = .error f := by rw [← HR.out.eq]; exact sem_fail hrun.wf (by omega) hrun.n32 hst
            unfold MVoid at hV
            rw [hst] at hV
            obtain ⟨rfl, ⟨pre, hpl, hfb⟩, hB⟩ := hV
            dsimp only at hfb
            have hf0 : f.1 ≠ 0 := run_code (by rw [← HR0.out]; exact hRe)
            have hq0 : (f.1 == 0) = false := by rw [beq_eq_false_iff_ne]; exact hf0
            have c7 : w4.cell? ⟨w1.heap.size, 7, none⟩ = some (.int .i64 f.1) := by rw [Lib.cell_of_heap hfb 7]; simp [hpl]
            have hz4 : w1.heap.size < w4.heap.size := (Array.getElem?_eq_some_iff.1 hfb).1
            have l19 : (loadCells ⟨w1.heap.size, 7, none⟩ 19).run Tryz.prog w4 = .ok (H.fcells f.1 (placeT ts f.2 : Nat) ⟨#[]⟩) w4 := fault_load hpl hfb
            have l19d : (loadCells ⟨w1.heap.size, 7, none⟩ 19).run Tryz.prog w4.drew = .ok (H.fcells f.1 (placeT ts f.2 : Nat) ⟨#[]⟩) w4.drew := fault_load (w := w4.drew) hpl hfb
            have l19s : (loadCells ⟨w1.heap.size, 7, none⟩ 19).run Tryz.prog ((w4.setCell ⟨w.heap.size, 0, none⟩ (.slice none 0 0)).drew) = .ok (H.fcells f.1 (placeT ts f.2 : Nat) ⟨#[]⟩) ((w4.setCell ⟨w.heap.size, 0, none⟩ (.slice none 0 0)).drew) := fault_load (w := (w4.setCell ⟨w.heap.size, 0, none⟩ (.slice none 0 0)).drew) hpl ((heap_setCell_other w4 _ _ _ (by simp; omega)).trans hfb)
            have RB4 := RS10.out.kept hB hz1
            have BW4 := Lib.hid (BW10.out.trans (hB.mono (by omega)))
            have t1 : w4.drew.cell? ⟨w.heap.size, 0, none⟩ = some (.slice none 0 0) := (Lib.cell_of_heap (w := w4) RB4.tree _).trans rfl
            have tf : w4.drew.frozen? ⟨w.heap.size, 0, none⟩ = false := by simp [World.frozen?, show w4.drew.heap[w.heap.size]? = _ from RB4.tree]
            have s1 := st1v w4.drew w.heap.size 0 _ none 0 0 t1 tf
            have h2 : (w4.drew.setCell ⟨w.heap.size, 0, none⟩ (.slice none 0 0)).heap[w.heap.size + 1]? = some (.cells (H.fcells 0 0 ⟨#[]⟩) 35 (0, 0)) := (heap_setCell_other _ _ _ _ (by simp)).trans RB4.flt
            have s2 : ∀ c a : Int, (storeCells ⟨w.heap.size + 1, 0, none⟩ (H.flist c a ⟨#[]⟩)).run Tryz.prog (w4.drew.setCell ⟨w.heap.size, 0, none⟩ (.slice none 0 0)) = .ok () ((w4.drew.setCell ⟨w.heap.size, 0, none⟩ (.slice none 0 0)).setRow (w.heap.size + 1) (H.fcells c a ⟨#[]⟩)) := fun c a => H.s_cells _ _ _ c a 0 0 _ _ h2
            have h3 : ((w4.setCell ⟨w.heap.size, 0, none⟩ (.slice none 0 0)).drew).heap[w.heap.size + 1]? = some (.cells (H.fcells 0 0 ⟨#[]⟩) 35 (0, 0)) := (heap_setCell_other w4 _ _ _ (by simp)).trans RB4.flt
            have s3 : ∀ c a : Int, (storeCells ⟨w.heap.size + 1, 0, none⟩ (H.flist c a ⟨#[]⟩)).run Tryz.prog ((w4.setCell ⟨w.heap.size, 0, none⟩ (.slice none 0 0)).drew) = .ok () (((w4.setCell ⟨w.heap.size, 0, none⟩ (.slice none 0 0)).drew).setRow (w.heap.size + 1) (H.fcells c a ⟨#[]⟩)) := fun c a => H.s_cells _ _ _ c a 0 0 _ _ h3
            have RB4h := Lib.hid RB4
            have HRE := Lib.hid hRe
            have H2h := Lib.hid h2
            have H3h := Lib.hid h3
            clear hB hRe hst STP hsx RB4 h2 h3 hfb
            go_wp2
            go_region
            all_goals go_wp2
            have g2 : ((w4.setCell ⟨w.heap.size, 0, none⟩ (.slice none 0 0)).drew.setRow (w.heap.size + 1) (H.fcells f.1 (placeT ts f.2 : Nat) ⟨#[]⟩)).heap[w.heap.size]? = some (.cells #[.slice none 0 0] 25 (0, 0)) := (setRow_other _ _ _ _ (by omega)).trans (heap_setCell_same w4 _ _ _ _ _ RB4h.out.tree)
            refine bodyPost_ret (resultsR _ w.heap.size (w.heap.size + 1) _ (.slice none 0 0) (.slice none 0 0) f.1 (placeT ts f.2 : Nat) rfl rfl rfl ((Lib.cell_of_heap g2 _).trans rfl) (setRow_heap _ _ _ _ _ _ H3h.out)) rfl ?_
            rw [HRES.out, HRE.out]
            exact ⟨((BW4.out.setCell (p := ⟨w.heap.size, 0, none⟩) (Nat.le_refl _) _).drew).trans ⟨rfl, rfl, rfl, by simp [World.setRow], fun k hk => setRow_other _ _ _ _ (by omega)⟩, rfl⟩
          · have heq' : sem ts (ws' ++ ws) fr' S' = R := by rw [← sem_next hrun.wf (by omega) hrun.n32 hst]; exact HR.out.eq
            obtain ⟨hrun', hon⟩ := step_run hrun hst
            unfold MVoid at hV
            rw [hst] at hV
            obtain ⟨rfl, M', hP', hA, hB⟩ := hV
            obtain ⟨P2, vt2, vw2, vp2, vo2, vf2, kv2⟩ := M'
            obtain rfl : P2 = w1.heap.size := hP'
            have c7 : w4.cell? ⟨w1.heap.size, 7, none⟩ = some (.int .i64 0) := (Lib.cell_of_heap hA.cells _).trans rfl
            have hz4 := hA.lt
            dsimp only at hz4
            have hpos' := hA.pos
            have RN : Hid (Rnd ts w R w1.heap.size (10 * (ts.length - S'.pos) + sumW wt (ws' ++ ws)) (ws' ++ ws) fr' S' ⟨w1.heap.size, vt2, vw2, vp2, vo2, vf2, kv2⟩ w4) := Lib.hid ⟨hA, rfl, hrun', heq', hz1, BW10.out.trans (hB.mono (by omega)), RS10.out.kept hB hz1, rfl, by
              have h2 := HR.out.num
              have h3 := HR.out.few
              unfold OnI at hon
              omega⟩
            have hlt : 10 * (ts.length - S'.pos) + sumW wt (ws' ++ ws) < gk := by
              have h2 := HR.out.num
              unfold OnI at hon
              omega
            clear hA hB hrun' hon heq' hst STP hsx
            go_wp2
            go_roundg (10 * (ts.length - S'.pos) + sumW wt (ws' ++ ws))
            case measure => exact hlt
            case rel => exact ⟨_, _, _, _, RN⟩
theorem rp_any (s : ByteArray) (w : World) (hs : s.size ≤ 9223372036854775807) : Calls Tryz.prog 16 #[.string s] w (RefAns w (parseL s.data.toList)) := by
  cases hsc : scanL s.data.toList with
  | mk ts o =>
    cases o with
    | some f =>
      have h := rp_scan s w hs ts f hsc (by obtain ⟨c, a⟩ := f; exact scanL_code (by rw [hsc]))
      unfold parseL
      rw [hsc]
      exact h
    | none =>
      refine rp_run s w hs ts hsc _ ?_
      unfold parseL
      rw [hsc]
      simp only
      cases treeOf ts with
      | error f => rfl
      | ok q => obtain ⟨ps, offs⟩ := q; rfl
end

end Go.Proofs.YtfiljgkcipnghaaGreatDoor.X
