/-
  The plain law of ShowReads: what a fault of a tree says; one text has one tree.
-/
import Derived.Test.YtghhnnbbjlipcaaGreatDoorVdWalk
import Derived.Test.YtghhnnbbjlipcaaGreatDoorSmA
import Derived.Test.YtghhnnbbjlipcaaGreatDoorErA
import Derived.Lib.ItoaLen
set_option linter.unusedVariables false
set_option linter.unusedSimpArgs false
namespace Go.Proofs.YtghhnnbbjlipcaaGreatDoor.X
open Go.RowKit Go.Proofs.YtghhnnbbjlipcaaGreatDoorW.PrintWords Go.Proofs.YtghhnnbbjlipcaaGreatDoorW.PrintLast
theorem formGo_at (parts : List P.Pt) : ∀ (ps : List P.Pt) (i : Nat) (free : List Int) (c a : Int), P.formGo parts ps i free = some (c, a) → i + ps.length = parts.length → 0 < parts.length → 0 ≤ a ∧ a ≤ parts.length
  | [], i, free, c, a, h, h1, h2 => by
    simp only [P.formGo] at h
    split at h
    · cases h
    · injection h with h; injection h with h3 h4; omega
  | p :: ps, i, free, c, a, h, h1, h2 => by
    simp only [P.formGo] at h
    simp only [List.length_cons] at h1
    split at h
    · exact formGo_at parts ps (i + 1) _ c a h (by omega) h2
    · injection h with h; injection h with h3 h4; omega
theorem deepGo_at : ∀ (ns : List Int) (i : Nat) (c a : Int), P.deepGo ns i = some (c, a) → 0 ≤ a ∧ a ≤ i + ns.length
  | [], i, c, a, h => by cases h
  | n :: ns, i, c, a, h => by
    simp only [P.deepGo] at h
    simp only [List.length_cons]
    split at h
    · injection h with h; injection h with h1 h2; omega
    · have := deepGo_at ns (i + 1) c a h
      omega
theorem validSpec_at {l0 : List P.Pt} {c a : Int} (h : P.validSpec l0 = some (c, a)) : (c = 130 ∨ c = 122) ∧ 0 ≤ a ∧ a ≤ 1000 := by
  unfold P.validSpec at h
  cases hf : P.formSpec l0 with
  | some f =>
    rw [hf] at h
    obtain ⟨c', a'⟩ := f
    have h1 := P.formSpec_code hf
    injection h with h; injection h with h2 h3
    subst h2 h3
    refine ⟨.inl h1, ?_⟩
    unfold P.formSpec at hf
    split at hf
    · injection hf with hf; injection hf with h4 h5; omega
    · split at hf
      · injection hf with hf; injection hf with h4 h5; omega
      · have := formGo_at l0 l0 0 [] _ _ hf (by omega) (by omega)
        omega
  | none =>
    rw [hf] at h
    have hS := P.formSpec_shape l0 hf
    have h1 := P.deepGo_code _ _ _ _ h
    have h2 := deepGo_at _ _ _ _ h
    have h3 := (P.nestsSpec_within l0 hS.few).2
    have := hS.few
    exact ⟨.inr h1, by omega, by omega⟩
/-- A right tree with a text that is not too long is what its text reads as. -/
theorem src_of_valid {l0 : List P.Pt} (hv : P.validSpec l0 = none) {t : Bs} (ht : P.txt l0 ((l0.length - 1 : Nat) : Int) = t) (hl : t.length ≤ 4096) : ∃ offs, parseL t = .ok (toPDs l0, offs) ∧ offs.length = l0.length ∧ Src0 l0 (toPDs l0) := by
  have hS := P.formSpec_shape l0 (valid_parts hv).1
  have hpr : ∃ offs, parseL t = .ok (toPDs l0, offs) := by rw [← ht]; exact valid_reads hv (by rw [ht]; exact hl)
  obtain ⟨offs, hpr⟩ := hpr
  have hko : (toPDs l0).map ofPD = l0 := ofs_to (fun p hp k hk => by
    obtain ⟨j, hj, rfl⟩ := List.mem_iff_getElem.1 hp
    have := (hS.parts j hj).kids k
    rw [show P.rd_T45 l0 (j : Int) = l0[j] by simp [P.rd_T45, List.getD_eq_getElem?_getD, List.getElem?_eq_getElem hj]] at this
    exact (this hk).1)
  have hs := src0 hpr
  rw [hko] at hs
  refine ⟨offs, hpr, ?_, hs⟩
  rcases either_cases t with ⟨ps, offs', h1, h2, _⟩ | ⟨f, h1, _⟩
  · rw [h1] at hpr
    injection hpr with hpr; injection hpr with h3 h4
    subst h3 h4
    rw [← hs.len]; omega
  · rw [h1] at hpr; cases hpr
theorem nothing_reads : ∀ q, parseL [] ≠ .ok q := by
  intro q h
  have : (match parseL [] with | .ok _ => true | .error _ => false) = false := by kernel_rfl
  rw [h] at this
  cases this
theorem txt_inj {l0 l1 : List P.Pt} (h0 : P.validSpec l0 = none) (h1 : P.validSpec l1 = none) {t : Bs} (t0 : P.txt l0 ((l0.length - 1 : Nat) : Int) = t) (t1 : P.txt l1 ((l1.length - 1 : Nat) : Int) = t) (hl : t.length ≤ 4096) : l0 = l1 := by
  obtain ⟨o0, hp0, _, hs0⟩ := src_of_valid h0 t0 hl
  obtain ⟨o1, hp1, _, hs1⟩ := src_of_valid h1 t1 hl
  rw [hp0] at hp1
  injection hp1 with hp1; injection hp1 with h2 h3
  rw [← hs0.eq, ← hs1.eq, h2]
/-- What the second tree's text is, beside the first's. -/
theorem other_text {l0 l1 : List P.Pt} (h0 : P.validSpec l0 = none) {t : Bs} (t0 : P.txt l0 ((l0.length - 1 : Nat) : Int) = t) (hl : t.length ≤ 4096) :
    (∃ c a, H.textSpec l1 = ([], some (c, a))) ∨ (∃ t1, H.textSpec l1 = (t1, none) ∧ t1.length ≤ 4096 ∧ (t1 = t ↔ l0 = l1)) := by
  rcases text_cases l1 with ⟨c, a, h, _⟩ | ⟨hv, t1, ht, hl1, h⟩
  · exact .inl ⟨c, a, h⟩
  · refine .inr ⟨t1, h, hl1, fun e => ?_, fun e => ?_⟩
    · subst e; exact txt_inj h0 hv t0 ht hl1
    · subst e; rw [← ht, t0]
set_option maxRecDepth 100000 in
theorem sameG_any {l1 l2 : List P.Pt} (hl : l1.length ≤ 140737488355328) (hl2 : l2.length ≤ 140737488355328) {A B : Option Addr} {cA cB : Nat} {w : World} (hA : Kd.C P.k45 w A l1.length l1) (hB : Kd.C P.k45 w B l2.length l2) (hk : ∀ p ∈ l1, p.f3.length ≤ 140737488355328) (hk2 : ∀ p ∈ l2, p.f3.length ≤ 140737488355328) :
    Calls Tryz.prog 25 #[.agg #[.slice A l1.length cA], .agg #[.slice B l2.length cB]] w (SameAns w l1 l2) := by
  by_cases h : l2.length = l1.length
  · have e := sameG_eq (l1 := l1) (l2 := l2) (A := A) (B := B) (cA := cA) (cB := cB) (w := w) h hl hA hB hk hk2
    rw [h]
    exact e
  · exact sameG_len (fun e => h e.symm)
theorem small_kids {l : List P.Pt} (h : P.Small l) : ∀ p ∈ l, p.f3.length ≤ 140737488355328 := fun p hp => by
  obtain ⟨j, hj, rfl⟩ := List.mem_iff_getElem.1 hp
  have := h.2 j hj
  rw [show P.rd_T45 l (j : Int) = l[j] by simp [P.rd_T45, List.getD_eq_getElem?_getD, List.getElem?_eq_getElem hj]] at this
  exact this
theorem itoa_few (n : Int) (h0 : -1000000 ≤ n) (h1 : n ≤ 1000000) : (Lib.itoa n).length ≤ 21 := Lib.itoa_length_le n (by omega) (by omega)
theorem two_cells (w : World) (x y : Value) (t : TypeId) : ((w.alloc (.cells #[x] t)).alloc (.cells #[y] t)).cell? ⟨w.heap.size, 0, none⟩ = some x ∧ ((w.alloc (.cells #[x] t)).alloc (.cells #[y] t)).cell? ⟨w.heap.size + 1, 0, none⟩ = some y := by
  refine ⟨(Lib.cell_of_heap ((Below.heap_alloc _ _ _ (by simp)).trans (Go.heap_alloc_new w _)) 0).trans rfl, (Lib.cell_of_heap (by have h := Go.heap_alloc_new (w.alloc (.cells #[x] t)) (.cells #[y] t); rw [World.size_alloc] at h; exact h) 0).trans rfl⟩
/-- Two trees in memory, as a law finds them. -/
structure TwoT (w : World) (A0 : Option Addr) (c0 : Nat) (l0 : List P.Pt) (A1 : Option Addr) (c1 : Nat) (l1 : List P.Pt) : Prop where
  t : H.Law w A0 c0 l0
  u : H.Law w A1 c1 l1
  lw : LW w
theorem TwoT.below {w w' : World} {A0 : Option Addr} {c0 : Nat} {l0 : List P.Pt} {A1 : Option Addr} {c1 : Nat} {l1 : List P.Pt} (h : TwoT w A0 c0 l0 A1 c1 l1) (k : Below w.heap.size w w') : TwoT w' A0 c0 l0 A1 c1 l1 :=
  ⟨h.t.below k, h.u.below k, h.lw.below k⟩

end Go.Proofs.YtghhnnbbjlipcaaGreatDoor.X
