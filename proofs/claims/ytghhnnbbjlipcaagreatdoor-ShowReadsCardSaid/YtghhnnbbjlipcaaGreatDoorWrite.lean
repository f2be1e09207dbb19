/-
  The strings.Builder that lies in a field of show's writer: copyCheck, WriteString, Len, String; and the writer's put.
  The writer's put: the pieces one behind the other.
  A tree's text as a function of its parts.
-/
import Derived.Test.YtghhnnbbjlipcaaGreatDoorFault
import Derived.Lib.Builder
import Derived.Lib.AppendStr
import Derived.Lib.UnsafeStr
import Derived.Laws.Externs
import Derived.RegionTactic
import Derived.BigRegion
import Derived.Test.YtghhnnbbjlipcaaGreatDoorShapeL
import Derived.Test.YtghhnnbbjlipcaaGreatDoorShelf
set_option linter.unusedVariables false
set_option linter.unusedSimpArgs false
namespace Go.Proofs.YtghhnnbbjlipcaaGreatDoor.H
open Go.RowKit
/-- The writer's block: the parts, then the builder's two cells; the bytes written so far. -/
def WAt (w : World) (base b : Nat) (ps p : Value) (bs : List UInt8) : Prop :=
  base ≤ b ∧ ∃ v, w.heap[b]? = some (.cells #[ps, p, v] 93 (0, 0)) ∧ w.ownsRow base 5 1 v bs.length (Lib.byteCells bs) ∧ v.ownBlock ≠ some b
def IsW (w : World) (base b : Nat) (ps : Value) (bs : List UInt8) : Prop := WAt w base b ps (.pointer none) bs ∨ WAt w base b ps (.pointer (some ⟨b, 1, none⟩)) bs
theorem WAt.c0 {w : World} {base b : Nat} {ps p : Value} {bs : List UInt8} (h : WAt w base b ps p bs) : w.cell? ⟨b, 0, none⟩ = some ps := by obtain ⟨_, v, hb, _⟩ := h; rw [Lib.cell_of_heap hb]; rfl
theorem WAt.c1 {w : World} {base b : Nat} {ps p : Value} {bs : List UInt8} (h : WAt w base b ps p bs) : w.cell? ⟨b, 1, none⟩ = some p := by obtain ⟨_, v, hb, _⟩ := h; rw [Lib.cell_of_heap hb]; rfl
theorem WAt.lt {w : World} {base b : Nat} {ps p : Value} {bs : List UInt8} (h : WAt w base b ps p bs) : b < w.heap.size := by
  obtain ⟨_, v, hb, _⟩ := h; exact (Array.getElem?_eq_some_iff.1 hb).1
theorem IsW.lt {w : World} {base b : Nat} {ps : Value} {bs : List UInt8} (h : IsW w base b ps bs) : b < w.heap.size := by rcases h with h | h <;> exact h.lt
theorem IsW.c0 {w : World} {base b : Nat} {ps : Value} {bs : List UInt8} (h : IsW w base b ps bs) : w.cell? ⟨b, 0, none⟩ = some ps := by rcases h with h | h <;> exact h.c0
theorem IsW.le {w : World} {base b : Nat} {ps : Value} {bs : List UInt8} (h : IsW w base b ps bs) : base ≤ b := by rcases h with h | h <;> exact h.1
theorem WAt.below {w w1 : World} {base b : Nat} {ps p : Value} {bs : List UInt8} (h : WAt w base b ps p bs) (hb1 : Below w.heap.size w w1) : WAt w1 base b ps p bs := by
  have hlt := h.lt
  obtain ⟨hB, v, hb, ho, hne⟩ := h
  exact ⟨hB, v, (hb1.block b hlt).trans hb, ho.kept (row := none) ⟨hb1.os, hb1.tape, hb1.output, hb1.size, fun i hi _ => hb1.block i hi⟩ (by cases v.ownBlock <;> simp), hne⟩
theorem IsW.below {w w1 : World} {base b : Nat} {ps : Value} {bs : List UInt8} (h : IsW w base b ps bs) (hb1 : Below w.heap.size w w1) : IsW w1 base b ps bs := by
  rcases h with h | h
  · exact .inl (h.below hb1)
  · exact .inr (h.below hb1)

/-- What a writing call leaves alone: what lay below base; and every block but the writer's own and rows of bytes. -/
structure KW (base b : Nat) (w w' : World) : Prop where
  bel : Below base w w'
  frm : ∀ k, k < w.heap.size → k ≠ b → (∀ cells fr, w.heap[k]? ≠ some (.cells cells 5 fr)) → w'.heap[k]? = w.heap[k]?
theorem KW.refl (base b : Nat) (w : World) : KW base b w w := ⟨Below.refl _ _, fun _ _ _ _ => rfl⟩
theorem KW.trans {base b : Nat} {w w1 w2 : World} (h : KW base b w w1) (k : KW base b w1 w2) : KW base b w w2 :=
  ⟨h.bel.trans k.bel, fun i hi hb hn => by
    have e := h.frm i hi hb hn
    exact (k.frm i (Nat.lt_of_lt_of_le hi h.bel.size) hb (fun c f => by rw [e]; exact hn c f)).trans e⟩
theorem KW.of_below {base b : Nat} {w w' : World} (h : Below w.heap.size w w') (hb : base ≤ w.heap.size) : KW base b w w' := ⟨h.mono hb, fun k hk _ _ => h.block k hk⟩
theorem KW.alloc {base b : Nat} {w W : World} (h : KW base b w W) (hb : base ≤ W.heap.size) (o : Obj) : KW base b w (W.alloc o) := h.trans (.of_below ((Below.refl _ _).alloc (Nat.le_refl _) o) hb)
theorem KW.drewN {base b : Nat} {w W : World} (h : KW base b w W) (n : Nat) : KW base b w (W.drewN n) := ⟨⟨h.bel.os, h.bel.tape, h.bel.output, h.bel.size, h.bel.block⟩, h.frm⟩
theorem KW.drew {base b : Nat} {w W : World} (h : KW base b w W) : KW base b w W.drew := ⟨h.bel.drew, h.frm⟩
/-- A block of another type stays. -/
theorem KW.block {base b : Nat} {w w' : World} (h : KW base b w w') {k : Nat} {cells : Array Value} {T : TypeId} {fr : Nat × Nat} (hk : w.heap[k]? = some (.cells cells T fr)) (hb : k ≠ b) (hT : T ≠ 5) : w'.heap[k]? = some (.cells cells T fr) := by
  rw [h.frm k (Array.getElem?_eq_some_iff.1 hk).1 hb (fun c f e => by rw [hk] at e; injection e with e; injection e with _ e; exact hT e)]
  exact hk

theorem infoU8 : (Tryz.prog.info? 5).map (fun i => (i.zero, i.size, i.bytes)) = some (some (.int .u8 0), 1, 1) := by kernel_rfl

set_option maxRecDepth 100000 in
theorem copyCheck_used (b : Nat) (w : World) (h0 : w.cell? ⟨b, 1, none⟩ = some (.pointer (some ⟨b, 1, none⟩))) :
    Calls Tryz.prog 107 #[.pointer (some ⟨b, 1, none⟩)] w fun e w' => e = .returned (.tuple #[]) ∧ w = w' := by
  obtain ⟨j, hj, _⟩ := Option.map_eq_some_iff.1 (show (Tryz.prog.info? 91).map (·.size) = some 2 by kernel_rfl)
  go_enter Tryz.func107, Tryz.ntmps107
  go_wp2
  rw [Lib.run_neq_ptr_same w _ Tryz.underlying88 hj]
  go_wp2
  go_end0
  exact ⟨rfl, rfl⟩

set_option maxRecDepth 100000 in
theorem copyCheck_fresh (b : Nat) (w : World) (h0 : w.cell? ⟨b, 1, none⟩ = some (.pointer none)) (hsh : w.shape? b = some (93, 3)) (hfz : w.frozen? ⟨b, 1, none⟩ = false) :
    Calls Tryz.prog 107 #[.pointer (some ⟨b, 1, none⟩)] w fun e w' => e = .returned (.tuple #[]) ∧ w.setCell ⟨b, 1, none⟩ (.pointer (some ⟨b, 1, none⟩)) = w' := by
  obtain ⟨j, hj, hjs⟩ := Option.map_eq_some_iff.1 (show (Tryz.prog.info? 91).map (·.size) = some 2 by kernel_rfl)
  have lies : liesAt Tryz.prog Tryz.prog.depth 93 (3 / Tryz.prog.cellsOf 93) 1 91 1 = true := by kernel_rfl
  go_enter Tryz.func107, Tryz.ntmps107
  go_wp2
  rw [Lib.run_to_unsafe w ⟨b, 1, none⟩ Tryz.underlying88 Tryz.underlying150 hj (by rw [hjs]; decide) hsh (by show 1 < 3; decide)]
  simp only [Result.andThen]
  rw [Oper.upon_value]
  go_wp2
  rw [run_callFunc_extern Tryz.func119 (by kernel_rfl) (by kernel_rfl) (by kernel_rfl) (e := Extern.AbiNoEscape.same) (by kernel_rfl)]
  rw [Lib.run_noEscape]
  simp only [Result.andThen]
  rw [Oper.upon_value]
  go_wp2
  rw [Lib.run_from_unsafe w ⟨b, 1, none⟩ Tryz.underlying150 Tryz.underlying88 hj hsh lies]
  simp only [Result.andThen]
  rw [Oper.upon_value]
  go_wp2
  go_end0
  exact ⟨rfl, rfl⟩

theorem heap_setCell_at {w : World} {b : Nat} {c0 c1 c2 v : Value} {T : TypeId} (hb : w.heap[b]? = some (.cells #[c0, c1, c2] T (0, 0))) (i : Nat) :
    (w.setCell ⟨b, i, none⟩ v).heap[b]? = some (.cells (#[c0, c1, c2].setIfInBounds i v) T (0, 0)) := by
  have hlt : b < w.heap.size := (Array.getElem?_eq_some_iff.1 hb).1
  have hv : w.heap[b] = .cells #[c0, c1, c2] T (0, 0) := (Array.getElem?_eq_some_iff.1 hb).2
  unfold World.setCell
  rw [Array.getElem?_eq_getElem (by simpa using hlt), Array.getElem_modify]
  simp [hv]

/-- copyCheck: behind it the builder holds its own address. -/
theorem copyCheck_any (base b : Nat) (ps : Value) (bs : List UInt8) (w : World) (h : IsW w base b ps bs) :
    Calls Tryz.prog 107 #[.pointer (some ⟨b, 1, none⟩)] w fun e w' => e = .returned (.tuple #[]) ∧ WAt w' base b ps (.pointer (some ⟨b, 1, none⟩)) bs ∧ KW base b w w' := by
  rcases h with h | h
  · obtain ⟨hB, v, hb, ho, hne⟩ := h
    refine (copyCheck_fresh b w (by rw [Lib.cell_of_heap hb]; rfl) (by simp [World.shape?, hb]) (Lib.frozen_of_heap hb 1)).mono ?_
    rintro e w' ⟨rfl, rfl⟩
    have hbel : Below base w (w.setCell ⟨b, 1, none⟩ (.pointer (some ⟨b, 1, none⟩))) := (Below.refl _ _).setCell (p := ⟨b, 1, none⟩) hB _
    refine ⟨rfl, ⟨hB, v, heap_setCell_at hb 1, ?_, hne⟩, hbel, fun i _ hi _ => Below.heap_setCell w ⟨b, 1, none⟩ _ i hi⟩
    refine ho.kept (row := some b) ⟨rfl, rfl, rfl, by simp, fun i hi hne' => Below.heap_setCell w ⟨b, 1, none⟩ _ i (fun e => hne' (by rw [e]))⟩ ?_
    cases hv : v.ownBlock with
    | none => exact .inl rfl
    | some k => exact .inr (by rw [← hv]; exact hne)
  · exact (copyCheck_used b w h.c1).mono fun e w' ⟨h1, h2⟩ => ⟨h1, h2 ▸ h, h2 ▸ KW.refl _ _ _⟩

set_option maxRecDepth 100000 in
theorem writeString_any (base b : Nat) (ps : Value) (bs : List UInt8) (s : ByteArray) (w : World) (h : IsW w base b ps bs) (hlen : bs.length + s.size ≤ 140737488355328) (hBw : base ≤ w.heap.size) :
    Calls Tryz.prog 82 #[.pointer (some ⟨b, 1, none⟩), .string s] w fun e w' => e = .returned (.tuple #[.int .i64 s.size, .nilIface]) ∧ IsW w' base b ps (bs ++ s.data.toList) ∧ KW base b w w' := by
  obtain ⟨i0, hi, hz0, hz1, hz2⟩ := info_parts infoU8
  go_enter Tryz.func82, Tryz.ntmps82
  go_wp2_with (go_at_call 107; refine (copyCheck_any base b ps bs _ h).mono ?_)
  rintro e w1 ⟨rfl, h1, hb1⟩
  obtain ⟨hB, v, hbk, hown, hne⟩ := h1
  have c1 : w1.cell? ⟨b, 1, none⟩ = some (.pointer (some ⟨b, 1, none⟩)) := by rw [Lib.cell_of_heap hbk]; rfl
  have c2 : w1.cell? ⟨b, 2, none⟩ = some v := by rw [Lib.cell_of_heap hbk]; rfl
  go_wp2_with (at_builtin; refine Lib.wpList_append_own_string _ rfl _ _ 89 9 rfl base 5 i0 Tryz.underlying89 Tryz.underlying9 hi hz0 hz1 hz2 _ _ _ rfl hown s rfl ?c3 ?c4 ?c5 ?_)
  case c3 => unfold maxLen; omega
  case c4 => omega
  case c5 => have := hb1.bel.size; omega
  intro v' w2 hown' hgrow _
  have hlt : b < w1.heap.size := (Array.getElem?_eq_some_iff.1 hbk).1
  have hb2 : w2.heap[b]? = some (.cells #[ps, .pointer (some ⟨b, 1, none⟩), v] 93 (0, 0)) := by
    rw [hgrow.block b hlt (fun e => hne e.symm)]
    exact hbk
  have d2 : w2.cell? ⟨b, 2, none⟩ = some v := by rw [Lib.cell_of_heap hb2]; rfl
  have f2 : w2.frozen? ⟨b, 2, none⟩ = false := Lib.frozen_of_heap hb2 2
  obtain ⟨ao, n', cap, rfl⟩ : ∃ ao n' cap, v' = .slice ao n' cap := by
    rcases hown'.2 with ⟨hv, _⟩ | ⟨g, cap, cur, hv, _⟩
    · exact ⟨_, _, _, hv⟩
    · exact ⟨_, _, _, hv⟩
  have hneb : (Value.slice ao n' cap).ownBlock ≠ some b := by
    intro e
    rcases hown'.2 with ⟨hv, _⟩ | ⟨g, cap', cur, hv, _, hh, _⟩
    · rw [hv] at e; simp [Value.ownBlock] at e
    · rw [hv] at e
      have : g = b := by simpa [Value.ownBlock] using e
      subst this
      rw [hh] at hb2
      injection hb2 with hb2
      injection hb2 with _ hb2
      exact absurd hb2 (by decide)
  go_wp2
  go_ret2
  refine ⟨rfl, .inr ⟨hB, .slice ao n' cap, heap_setCell_at hb2 2, ?_, hneb⟩, ?_⟩
  · have ho2 : w2.ownsRow base 5 1 (.slice ao n' cap) (bs ++ s.data.toList).length (Lib.byteCells (bs ++ s.data.toList)) := by
      rw [Lib.byteCells_append, ← Lib.strCells_eq, List.length_append]
      exact hown'
    refine ho2.kept (row := some b) ⟨rfl, rfl, rfl, by simp, fun i hi hne' => Below.heap_setCell w2 ⟨b, 2, none⟩ _ i (fun e => hne' (by rw [e]))⟩ ?_
    cases hv : (Value.slice ao n' cap).ownBlock with
    | none => exact .inl rfl
    | some k => exact .inr (by rw [← hv]; exact hneb)
  · refine hb1.trans ⟨((Below.refl _ _).grown hgrow (by have := hb1.bel.size; omega) (fun k hk => (hown.lt k hk).1)).setCell (p := ⟨b, 2, none⟩) hB _, fun i hi hib hn => ?_⟩
    rw [Below.heap_setCell w2 ⟨b, 2, none⟩ _ i hib]
    refine hgrow.block i hi (fun e => ?_)
    rcases hown.2 with ⟨hv, _⟩ | ⟨g, cap', cur, hv, _, hh, _⟩
    · rw [hv] at e; simp [Value.ownBlock] at e
    · rw [hv] at e
      have : i = g := by simpa [Value.ownBlock] using e
      subst this
      exact hn _ _ hh

theorem builderLen_any (base b : Nat) (ps : Value) (bs : List UInt8) (w : World) (h : IsW w base b ps bs) :
    Calls Tryz.prog 37 #[.pointer (some ⟨b, 1, none⟩)] w fun e w' => e = .returned (.int .i64 bs.length) ∧ w = w' := by
  obtain ⟨v, hbk, hown⟩ : ∃ v, w.cell? ⟨b, 2, none⟩ = some v ∧ w.ownsRow base 5 1 v bs.length (Lib.byteCells bs) := by
    rcases h with ⟨_, v, hb, ho, _⟩ | ⟨_, v, hb, ho, _⟩
    · exact ⟨v, by rw [Lib.cell_of_heap hb]; rfl, ho⟩
    · exact ⟨v, by rw [Lib.cell_of_heap hb]; rfl, ho⟩
  obtain ⟨ao, cap, rfl⟩ : ∃ ao cap, v = .slice ao bs.length cap := by
    rcases hown.2 with ⟨hv, h0⟩ | ⟨g, cap, cur, hv, _⟩
    · exact ⟨none, 0, by rw [hv, h0]⟩
    · exact ⟨_, _, hv⟩
  clear hown h
  go_enter Tryz.func37, Tryz.ntmps37
  go_wp2
  go_ret
  exact ⟨rfl, rfl⟩

set_option maxRecDepth 100000 in
theorem builderString_any (base b : Nat) (ps : Value) (l : List UInt8) (w : World) (h : IsW w base b ps l) (h0 : l ≠ []) :
    Calls Tryz.prog 39 #[.pointer (some ⟨b, 1, none⟩)] w fun e w' => e = .returned (.string ⟨l.toArray⟩) ∧ Below base w w' := by
  obtain ⟨hB, v, hbk, hown, hne⟩ : base ≤ b ∧ ∃ v, w.cell? ⟨b, 2, none⟩ = some v ∧ w.ownsRow base 5 1 v l.length (Lib.byteCells l) ∧ v.ownBlock ≠ some b := by
    rcases h with ⟨hB, v, hb, ho, hne⟩ | ⟨hB, v, hb, ho, hne⟩
    · exact ⟨hB, v, by rw [Lib.cell_of_heap hb]; rfl, ho, hne⟩
    · exact ⟨hB, v, by rw [Lib.cell_of_heap hb]; rfl, ho, hne⟩
  have hl0 : l.length ≠ 0 := by simpa using h0
  obtain ⟨g, cap, cur, rfl, hbg, hg, hnc, hcm, hcs, htake⟩ : ∃ g cap cur, v = .slice (some ⟨g, 0, none⟩) l.length cap ∧ base ≤ g ∧ w.heap[g]? = some (.cells cur 5 (0, 0)) ∧ l.length ≤ cap ∧ cap ≤ maxLen ∧ cur.size = cap * 1 ∧ cur.toList.take (l.length * 1) = Lib.byteCells l := by
    rcases hown.2 with ⟨_, hz⟩ | ⟨g, cap, cur, hv, r⟩
    · exact absurd hz hl0
    · exact ⟨g, cap, cur, hv, r⟩
  have hSD : (Builtin.unsafeSliceData_ #[89] 109 #[.slice (some ⟨g, 0, none⟩) l.length cap]).run Tryz.prog w.drew = .ok (.pointer (some ⟨g, 0, none⟩)) w.drew :=
    Lib.run_unsafeSliceData_row _ _ _ _ _ _ (by omega)
  have hUS : (Builtin.unsafeString_ #[109, 3] 9 #[.pointer (some ⟨g, 0, none⟩), .int .i64 l.length]).run Tryz.prog w.drew = .ok (.string ⟨l.toArray⟩) (w.drew.freeze ⟨g, 0, none⟩ l.length) := by
    refine Lib.run_unsafeString_row w.drew 109 3 9 5 Tryz.underlying109 (by kernel_rfl) g cur.size (by have hg' : w.drew.heap[g]? = some (.cells cur 5 (0, 0)) := hg; simp [World.shape?, hg']) l h0 (by omega) (by unfold maxLen at hcm; omega) ?_
    intro j x hx
    exact hown.cells (g := g) rfl j (.int .u8 x.toNat) (by simp [Lib.byteCells, hx])
  clear hown h hne hcs htake
  go_enter Tryz.func39, Tryz.ntmps39
  go_wp2
  go_region
  all_goals (go_wp2; go_ret; exact ⟨rfl, Lib.below_freeze (Below.drew (Below.refl base w)) (p := ⟨g, 0, none⟩) hbg _⟩)

end Go.Proofs.YtghhnnbbjlipcaaGreatDoor.H
set_option linter.unusedVariables false
set_option linter.unusedSimpArgs false
namespace Go.Proofs.YtghhnnbbjlipcaaGreatDoor.H
open Go.RowKit
abbrev strObj (l : List ByteArray) : Obj := .cells (l.map Value.string).toArray 9
def flat (l : List ByteArray) : List UInt8 := l.flatMap (·.data.toList)
theorem flat_take_succ (l : List ByteArray) (k : Nat) (h : k < l.length) : flat (l.take (k + 1)) = flat (l.take k) ++ l[k].data.toList := by
  unfold flat
  rw [List.take_succ_eq_append_getElem h, List.flatMap_append, List.flatMap_singleton]
theorem flat_take_le (l : List ByteArray) (k : Nat) : (flat (l.take k)).length ≤ (flat l).length := by
  have : flat l = flat (l.take k) ++ flat (l.drop k) := by rw [flat, flat, flat, ← List.flatMap_append, List.take_append_drop]
  rw [this]; simp

set_option maxRecDepth 100000 in
theorem put_any (base b g : Nat) (ps : Value) (bs : List UInt8) (l : List ByteArray) (w : World) (h : IsW w base b ps bs) (hg : w.heap[g]? = some (strObj l)) (hgb : g ≠ b) (hn : l.length ≤ 1000)
    (hlen : bs.length + (flat l).length ≤ 140737488355328) (hBw : base ≤ w.heap.size) :
    Calls Tryz.prog 54 #[.pointer (some ⟨b, 0, none⟩), .slice (some ⟨g, 0, none⟩) l.length l.length] w fun e w' => e = .returned (.tuple #[]) ∧ IsW w' base b ps (bs ++ flat l) ∧ KW base b w w' := by
  go_enter Tryz.func54, Tryz.ntmps54
  go_wp2
  go_loopw [8] (fun i wr => ∃ k : Nat, k ≤ l.length ∧ i = .int .i64 k ∧ Hid (IsW wr base b ps (bs ++ flat (l.take k)) ∧ KW base b w wr)) (fun i _ => l.length - (intOf i).toNat)
  case atStart => exact ⟨0, Nat.zero_le _, rfl, Lib.hid ⟨by simpa [flat] using h, KW.refl _ _ _⟩⟩
  case round =>
    obtain ⟨k, hk, rfl, HI⟩ := hrel
    by_cases hlt : k < l.length
    · have hB : decide (k < l.length) = true := by simp; omega
      have hc : wr.cell? ⟨g, k, none⟩ = some (.string l[k]) := by
        rw [Lib.cell_of_heap (HI.out.2.block hg hgb (by decide))]; simp [hlt]
      have hsz : (bs ++ flat (l.take k)).length + l[k].size ≤ 140737488355328 := by
        have := flat_take_le l (k + 1)
        rw [flat_take_succ l k hlt] at this
        have e : l[k].size = l[k].data.toList.length := by rw [Array.length_toList]; rfl
        simp only [List.length_append] at this ⊢
        omega
      have HS := Lib.hid hsz
      have HFT := Lib.hid (flat_take_succ l k hlt)
      have hbs : base ≤ wr.heap.size := by have := HI.out.2.bel.size; omega
      clear hsz
      generalize hpk : l[k] = pk at *
      have HPK := Lib.hid hpk
      clear hpk
      go_wp2_with (go_at_call 82; refine (writeString_any base b ps _ _ _ HI.out.1 HS.out hbs).mono ?_; rintro e w1 ⟨rfl, h1, hk1⟩)
      go_roundw
      case rel => exact ⟨k + 1, by omega, by go_num, Lib.hid ⟨by rw [HFT.out, ← List.append_assoc]; exact h1, HI.out.2.trans hk1⟩⟩
      case measure => simp [intOf]; omega
    · have hB : decide (k < l.length) = false := by simp; omega
      obtain rfl : k = l.length := by omega
      go_wp2
      go_end0
      have := HI.out
      rw [List.take_length] at this
      exact ⟨rfl, this⟩

end Go.Proofs.YtghhnnbbjlipcaaGreatDoor.H
set_option linter.unusedVariables false
set_option linter.unusedSimpArgs false
namespace Go.Proofs.YtghhnnbbjlipcaaGreatDoor.P
open Go.RowKit Go.Proofs.YtghhnnbbjlipcaaGreatDoorW.PrintWords Go.Proofs.YtghhnnbbjlipcaaGreatDoorW.PrintLast
abbrev Bs := List UInt8
def hexT (x : UInt8) : UInt8 := if x < 10 then 48 + x else 87 + x
def qbyte (x : UInt8) : Bs :=
  if x = 34 ∨ x = 92 then [92, x] else if x = 10 then [92, 110] else if x = 9 then [92, 116] else if x = 13 then [92, 114]
  else if x < 32 ∨ 126 < x then [92, 120, hexT (x / 16), hexT (x % 16)] else [x]
/-- The one text in quotes. -/
def quoteT (s : ByteArray) : Bs := 34 :: (s.data.toList.flatMap qbyte ++ [34])

def oneT (l0 : List Pt) (p : Pt) (f : Int → Bs) (k : Int) : Bs := if brackB p.f0 (rd_T45 l0 k).f0 then 40 :: (f k ++ [41]) else f k
def joinT (l0 : List Pt) (p : Pt) (sep : Bs) (f : Int → Bs) : List Int → Bs
  | [] => []
  | k :: ks => oneT l0 p f k ++ ks.flatMap (fun k => sep ++ oneT l0 p f k)
theorem joinT_succ (l0 : List Pt) (p : Pt) (sep : Bs) (f : Int → Bs) (ks : List Int) (k : Nat) (h : k < ks.length) :
    joinT l0 p sep f (ks.take (k + 1)) = joinT l0 p sep f (ks.take k) ++ ((if k = 0 then [] else sep) ++ oneT l0 p f ks[k]) := by
  cases ks with
  | nil => simp at h
  | cons a ks =>
    cases k with
    | zero => simp [joinT]
    | succ k =>
      simp only [List.take_succ_cons, joinT, List.getElem_cons_succ]
      have hk : k < ks.length := by simpa using h
      rw [List.take_succ_eq_append_getElem hk, List.flatMap_append, List.flatMap_singleton]
      simp
theorem joinT_take_le (l0 : List Pt) (p : Pt) (sep : Bs) (f : Int → Bs) (ks : List Int) (k : Nat) : (joinT l0 p sep f (ks.take k)).length ≤ (joinT l0 p sep f ks).length := by
  cases ks with
  | nil => simp
  | cons a ks =>
    cases k with
    | zero => simp [joinT]
    | succ k =>
      simp only [List.take_succ_cons, joinT, List.length_append]
      have : ks.flatMap (fun k => sep ++ oneT l0 p f k) = (ks.take k).flatMap (fun k => sep ++ oneT l0 p f k) ++ (ks.drop k).flatMap (fun k => sep ++ oneT l0 p f k) := by
        rw [← List.flatMap_append, List.take_append_drop]
      rw [this, List.length_append]; omega

def sideT (n : Int) : Bs := if n = 1 then [112, 111, 100] else if n = 2 then [110, 111, 100, 101] else [105, 116]
def cmpT (n : Int) : Bs := if n = 1 then [61, 61] else if n = 2 then [33, 61] else if n = 3 then [60] else if n = 4 then [60, 61] else if n = 5 then [62] else [62, 61]
/-- near, apart, count. -/
def selT (l0 : List Pt) (p : Pt) (f : Int → Bs) (word : Bs) : Bs := word ++ [40] ++ quoteT p.f1 ++ [44, 32] ++ joinT l0 p [] f p.f3 ++ [41]
def termT (l0 : List Pt) (p : Pt) (f : Int → Bs) : Bs :=
  if p.f0 = 10 then [116, 111, 108, 101, 114, 97, 116, 101, 100, 40] ++ quoteT p.f1 ++ [41]
  else if p.f0 = 11 then quoteT p.f1
  else if p.f0 = 12 then Lib.itoa p.f2
  else if p.f0 = 13 then [123] ++ joinT l0 p [44, 32] f p.f3 ++ [125]
  else if p.f0 = 14 then sideT p.f2 ++ [91] ++ quoteT p.f1 ++ [93]
  else if p.f0 = 15 then sideT p.f2 ++ [46, 110, 97, 109, 101]
  else if p.f0 = 16 then sideT p.f2 ++ [46, 107, 101, 121, 115]
  else if p.f0 = 17 then sideT p.f2 ++ [46, 116, 97, 105, 110, 116, 115]
  else if p.f0 = 18 then sideT p.f2 ++ [46, 99, 97, 112, 40] ++ quoteT p.f1 ++ [41]
  else if p.f0 = 19 then [105, 110, 116, 40] ++ joinT l0 p [] f p.f3 ++ [41]
  else []
def partT (l0 : List Pt) (p : Pt) (f : Int → Bs) : Bs :=
  if p.f0 = 1 then [116, 114, 117, 101]
  else if p.f0 = 2 then [102, 97, 108, 115, 101]
  else if p.f0 = 3 then [33] ++ joinT l0 p [] f p.f3
  else if p.f0 = 4 then joinT l0 p [32, 38, 38, 32] f p.f3
  else if p.f0 = 5 then joinT l0 p [32, 124, 124, 32] f p.f3
  else if p.f0 = 6 then joinT l0 p ([32] ++ cmpT p.f2 ++ [32]) f p.f3
  else if p.f0 = 7 then (if p.f2 = 0 then joinT l0 p [32, 105, 110, 32] f p.f3 else joinT l0 p [32, 110, 111, 116, 105, 110, 32] f p.f3)
  else if p.f0 = 8 then selT l0 p f [110, 101, 97, 114]
  else if p.f0 = 9 then selT l0 p f [97, 112, 97, 114, 116]
  else if p.f0 = 20 then selT l0 p f [99, 111, 117, 110, 116]
  else termT l0 p f
/-- The text of the part at a place (n: how deep at most). -/
def rend (l0 : List Pt) : Nat → Int → Bs
  | 0, _ => []
  | n + 1, at_ => partT l0 (rd_T45 l0 at_) (rend l0 n)

end Go.Proofs.YtghhnnbbjlipcaaGreatDoor.P
