import Derived.Test.YtfiljgkcipnghaaGreatDoorBase
import Derived.Test.YtfiljgkcipnghaaGreatDoorProg
import Derived.WalkKit
import Derived.KernelRfl
import Derived.Deep.Draws
import Derived.Deep.QuietTactic
import Derived.BigQuiet
import Derived.BigRegion
import Derived.Outline
import Derived.LoopN
import Derived.WalkSpells
import Derived.WalkLawsBesides
import Derived.Lib.Hide
set_option linter.unusedVariables false
set_option linter.unusedSimpArgs false
namespace Go.Proofs.YtfiljgkcipnghaaGreatDoor.H
open Go.RowKit
/-- The cells of a Fault without a name and a cause. -/
abbrev faultObj (code at_ : Int) : Obj := .cells #[.int .i64 code, .int .i64 at_, .string ⟨#[]⟩, .nilIface] 66


/-- The document's Fault as a value: code, place, no name, no cause. -/
abbrev refFault (code at_ : Int) : Value := .agg #[.int .i64 code, .int .i64 at_, .string ⟨#[]⟩,
  .int .i64 0, .int .i64 0, .int .i64 0, .string ⟨#[]⟩, .int .i64 0, .int .i64 0, .int .i64 0, .string ⟨#[]⟩,
  .int .i64 0, .int .i64 0, .int .i64 0, .string ⟨#[]⟩, .int .i64 0, .int .i64 0, .int .i64 0, .string ⟨#[]⟩]

/-- Its cells. -/
abbrev fcells (a b : Int) (s : ByteArray) : Array Value := #[.int .i64 a, .int .i64 b, .string s,
  .int .i64 0, .int .i64 0, .int .i64 0, .string ⟨#[]⟩, .int .i64 0, .int .i64 0, .int .i64 0, .string ⟨#[]⟩,
  .int .i64 0, .int .i64 0, .int .i64 0, .string ⟨#[]⟩, .int .i64 0, .int .i64 0, .int .i64 0, .string ⟨#[]⟩]
theorem fsize : (Tryz.prog.info? 35).map (·.size) = some 19 := by kernel_rfl
theorem fcells_one (a b : Int) (s : ByteArray) : (fcells a b s).all (·.oneCell') = true := by simp [fcells, Value.oneCell']
/-- Its cells as a list. -/
abbrev flist (a b : Int) (s : ByteArray) : List Value := [.int .i64 a, .int .i64 b, .string s,
  .int .i64 0, .int .i64 0, .int .i64 0, .string ⟨#[]⟩, .int .i64 0, .int .i64 0, .int .i64 0, .string ⟨#[]⟩,
  .int .i64 0, .int .i64 0, .int .i64 0, .string ⟨#[]⟩, .int .i64 0, .int .i64 0, .int .i64 0, .string ⟨#[]⟩]
theorem s_cells (W : World) (g : Nat) (t : TypeId) (a b a' b' : Int) (s s' : ByteArray) (hg : W.heap[g]? = some (.cells (fcells a' b' s') t (0, 0))) :
    (storeCells ⟨g, 0, none⟩ (flist a b s)).run Tryz.prog W = .ok () (W.setRow g (fcells a b s)) := by
  have h := run_storeCells_from (P := Tryz.prog) g t (fcells a b s).toList 0 (fcells a' b' s') W hg (by rfl) (fun v hv => (Array.all_eq_true_iff_forall_mem.1 (fcells_one a b s)) v (by simpa using hv))
  simpa using h
theorem l_cells (W : World) (g : Nat) (t : TypeId) (a b : Int) (s : ByteArray) (hg : W.heap[g]? = some (.cells (fcells a b s) t (0, 0))) :
    (loadCells ⟨g, 0, none⟩ 19).run Tryz.prog W = .ok (fcells a b s) W := by
  have h := run_loadCells_list (P := Tryz.prog) W ⟨g, 0, none⟩ (flist a b s) (fun j v hv => by
      have hadd : (⟨g, 0, none⟩ : Addr).add j = ⟨g, j, none⟩ := by unfold Addr.add; split <;> simp_all
      rw [hadd, cell_of_row W g j (fcells a b s) t (0, 0) hg]
      simpa using hv)
  exact h
theorem sc1 (w : World) (a b a' b' : Int) (s s' : ByteArray) :
    (storeCells ⟨w.heap.size, 0, none⟩ (flist a b s)).run Tryz.prog (w.alloc (.cells (fcells a' b' s') 35)) = .ok () (w.alloc (.cells (fcells a b s) 35)) := by
  rw [s_cells _ _ _ a b a' b' s s' (heap_alloc_new _ _), setRow_last]
theorem sc2 (w : World) (A : Obj) (a b a' b' : Int) (s s' : ByteArray) :
    (storeCells ⟨w.heap.size + 1, 0, none⟩ (flist a b s)).run Tryz.prog ((w.alloc A).alloc (.cells (fcells a' b' s') 35)).drew = .ok () ((w.alloc A).alloc (.cells (fcells a b s) 35)).drew := by
  rw [s_cells _ _ _ a b a' b' s s' (by rw [heap_drew]; exact heap_alloc2_new _ _ _), setRow_drew]
  have h := setRow_last (w.alloc A) (fcells a' b' s') (fcells a b s) 35
  rw [World.size_alloc] at h
  rw [h]
theorem lc2 (w : World) (A : Obj) (a b : Int) (s : ByteArray) :
    (loadCells ⟨w.heap.size + 1, 0, none⟩ 19).run Tryz.prog ((w.alloc A).alloc (.cells (fcells a b s) 35)).drew = .ok (fcells a b s) ((w.alloc A).alloc (.cells (fcells a b s) 35)).drew :=
  l_cells _ _ _ a b s (by rw [heap_drew]; exact heap_alloc2_new _ _ _)
theorem sc3 (w : World) (B : Obj) (a b a' b' : Int) (s s' : ByteArray) :
    (storeCells ⟨w.heap.size, 0, none⟩ (flist a b s)).run Tryz.prog ((w.alloc (.cells (fcells a' b' s') 35)).alloc B).drew = .ok () ((w.alloc (.cells (fcells a b s) 35)).alloc B).drew := by
  rw [s_cells _ _ _ a b a' b' s s' (by rw [heap_drew, Below.heap_alloc _ _ _ (by simp)]; exact heap_alloc_new _ _), setRow_drew, setRow_last2]
attribute [-go_sem] storeCells loadCells loadCellsFrom
attribute [local go_sem] sc1 sc2 lc2 sc3

set_option maxRecDepth 100000 in
theorem read_nil (w : World) :
    Calls Tryz.prog 11 #[.nilIface] w fun e w' => e = .returned (refFault 0 0) ∧ Below w.heap.size w w' := by
  go_enter Tryz.func11, Tryz.ntmps11
  go_wp2
  exact bodyPost_ret (v := refFault 0 0) (results_cell_row rfl _ _ w.heap.size 35 (fcells 0 0 ⟨#[]⟩) (0, 0) _ rfl (heap_alloc_new _ _) Tryz.underlying35 rfl (by rw [fsize]; rfl)) rfl ⟨rfl, (Below.refl _ _).alloc (Nat.le_refl _) _⟩

set_option maxRecDepth 100000 in
theorem read_fault (code at_ : Int) (b : Nat) (w : World) (hb : b < w.heap.size) (hc : w.cell? ⟨b, 0, none⟩ = some (.int .i64 code)) (ha : w.cell? ⟨b, 1, none⟩ = some (.int .i64 at_))
    (hn : w.cell? ⟨b, 2, none⟩ = some (.string ⟨#[]⟩)) (hi : w.cell? ⟨b, 3, none⟩ = some .nilIface) (h0 : (code == 0) = false) :
    Calls Tryz.prog 11 #[.iface 64 (.pointer (some ⟨b, 0, none⟩))] w fun e w' => e = .returned (refFault code at_) ∧ Below w.heap.size w w' := by
  have hta : ∀ (a : Addr) (w : World), (Instr.typeAssert (Value.iface 64 (.pointer (some a))) 28 64 true).run Tryz.prog w = .ok (.tuple #[.pointer (some a), .bool true]) w := fun _ _ => by kernel_rfl
  go_enter Tryz.func11, Tryz.ntmps11
  go_wp2
  go_region
  all_goals go_wp2
  refine wp_loop_rounds 1 ?_
  rw [rounds_succ]
  go_wp2
  exact bodyPost_ret (v := refFault code at_) (results_cell_row rfl _ _ w.heap.size 35 (fcells code at_ ⟨#[]⟩) (0, 0) _ rfl (by rw [heap_drew, Below.heap_alloc _ _ _ (by simp)]; exact heap_alloc_new _ _) Tryz.underlying35 rfl (by rw [fsize]; rfl)) rfl ⟨rfl, (((Below.refl _ _).alloc (Nat.le_refl _) _).alloc (by simp) _).drew⟩

theorem f_causes (w : World) : (Op.equalIn 9999 33 (.agg #[.int .i64 0, .int .i64 0, .int .i64 0, .string ⟨#[]⟩, .int .i64 0, .int .i64 0, .int .i64 0, .string ⟨#[]⟩,
    .int .i64 0, .int .i64 0, .int .i64 0, .string ⟨#[]⟩, .int .i64 0, .int .i64 0, .int .i64 0, .string ⟨#[]⟩]) (.agg #[.int .i64 0, .int .i64 0, .int .i64 0, .string ⟨#[]⟩, .int .i64 0, .int .i64 0, .int .i64 0, .string ⟨#[]⟩,
    .int .i64 0, .int .i64 0, .int .i64 0, .string ⟨#[]⟩, .int .i64 0, .int .i64 0, .int .i64 0, .string ⟨#[]⟩])).run Tryz.prog w = .ok true w := by kernel_rfl
set_option maxRecDepth 100000 in
theorem f_eql (c a c' a' : Int) (w : World) : (binOp .eql 35 (.agg (fcells c a ⟨#[]⟩)) (.agg (fcells c' a' ⟨#[]⟩))).run Tryz.prog w = .ok (.bool (c == c' && a == a')) w := by
  by_cases h1 : c = c'
  · by_cases h2 : a = a'
    · subst h1 h2
      simp [go_sem, fcells, Op.eqFields, f_causes]
    · have e1 : (a == a') = false := by simpa using h2
      simp [go_sem, fcells, Op.eqFields, f_causes, h2, h1, e1]
  · have e1 : (c == c') = false := by simpa using h1
    simp [go_sem, fcells, Op.eqFields, f_causes, h1, e1]

/-- What an error value is: none, or a Fault (never of code 0) without a name and a cause, in memory. -/
def ErrIs (w : World) (v : Value) : Option (Int × Int) → Prop
  | none => v = .nilIface
  | some (c, a) => ∃ b, v = .iface 64 (.pointer (some ⟨b, 0, none⟩)) ∧ b < w.heap.size ∧ w.cell? ⟨b, 0, none⟩ = some (.int .i64 c) ∧ w.cell? ⟨b, 1, none⟩ = some (.int .i64 a) ∧
      w.cell? ⟨b, 2, none⟩ = some (.string ⟨#[]⟩) ∧ w.cell? ⟨b, 3, none⟩ = some .nilIface ∧ (c == 0) = false
theorem ErrIs.below {w w' : World} {v : Value} {o : Option (Int × Int)} (h : ErrIs w v o) (hb : Below w.heap.size w w') : ErrIs w' v o := by
  cases o with
  | none => exact h
  | some x =>
    obtain ⟨c, a⟩ := x
    obtain ⟨b, e, hl, h0, h1, h2, h3, h4⟩ := h
    have k : ∀ j, w'.cell? ⟨b, j, none⟩ = w.cell? ⟨b, j, none⟩ := fun j => hb.cell (p := ⟨b, j, none⟩) hl
    exact ⟨b, e, Nat.lt_of_lt_of_le hl hb.size, (k 0).trans h0, (k 1).trans h1, (k 2).trans h2, (k 3).trans h3, h4⟩
theorem ErrIs.new (w : World) (c a : Int) (h : (c == 0) = false) : ErrIs (w.alloc (faultObj c a)) (.iface 64 (.pointer (some ⟨w.heap.size, 0, none⟩))) (some (c, a)) :=
  ⟨w.heap.size, rfl, by simp, by simp, by simp, by simp, by simp, h⟩

/-- 'Read': of any error that the program answers. -/
theorem read_any (v : Value) (o : Option (Int × Int)) (w : World) (h : ErrIs w v o) :
    Calls Tryz.prog 11 #[v] w fun e w' => e = .returned (.agg (fcells ((o.getD (0, 0)).1) ((o.getD (0, 0)).2) ⟨#[]⟩)) ∧ Below w.heap.size w w' := by
  cases o with
  | none => cases h; exact read_nil w
  | some x =>
    obtain ⟨c, a⟩ := x
    obtain ⟨b, rfl, hl, h0, h1, h2, h3, h4⟩ := h
    exact read_fault c a b w hl h0 h1 h2 h3 h4


end Go.Proofs.YtfiljgkcipnghaaGreatDoor.H
