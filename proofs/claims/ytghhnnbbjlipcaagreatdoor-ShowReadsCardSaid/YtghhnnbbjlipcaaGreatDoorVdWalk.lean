/-
  The walk of ShowSource.
-/
import Derived.Test.YtghhnnbbjlipcaaGreatDoorVdPl
import Derived.Test.YtghhnnbbjlipcaaGreatDoorTopIn
import Derived.Test.YtghhnnbbjlipcaaGreatDoorTextAll
set_option linter.unusedVariables false
set_option linter.unusedSimpArgs false
namespace Go.Proofs.YtghhnnbbjlipcaaGreatDoor.X
open Go.RowKit Go.Proofs.YtghhnnbbjlipcaaGreatDoorW.PrintWords Go.Proofs.YtghhnnbbjlipcaaGreatDoorW.PrintLast
theorem text_valid {l0 : List P.Pt} (hv : P.validSpec l0 = none) : H.textSpec l0 = ([], some (131, -1)) ∨ ∃ t, P.txt l0 ((l0.length - 1 : Nat) : Int) = t ∧ t.length ≤ 4096 ∧ H.textSpec l0 = (t, none) := by
  by_cases hl : 4096 < (P.txt l0 ((l0.length - 1 : Nat) : Int)).length
  · exact .inl (by simp [H.textSpec, hv, hl])
  · exact .inr ⟨_, rfl, by omega, by simp [H.textSpec, hv, hl]⟩
/-- The tree that parse has made, as a law about trees finds it. -/
structure Made (w : World) (A : Option Addr) (l0 : List P.Pt) : Prop where
  law : H.Law w A l0.length l0
  lw : LW w
theorem Made.below {w w' : World} {A : Option Addr} {l0 : List P.Pt} (h : Made w A l0) (k : Below w.heap.size w w') : Made w' A l0 := ⟨h.law.below k, h.lw.below k⟩
/-- What is known of a source's tree. -/
structure Src0 (l0 : List P.Pt) (ps : List PD) : Prop where
  eq : ps.map ofPD = l0
  back : toPDs l0 = ps
  len : ps.length = l0.length
  few : l0.length ≤ 1000
  valid : P.validSpec l0 = none
  small : P.Small l0
  kids : ∀ p ∈ l0, p.f3.length ≤ 140737488355328
  kids' : ∀ p ∈ ps, p.kids.length ≤ 140737488355328
theorem src0 {l : Bs} {ps : List PD} {offs : List Nat} (h : parseL l = .ok (ps, offs)) : Src0 (ps.map ofPD) ps := by
  obtain ⟨hv, hp, h1000, _⟩ := parse_valid h
  have hS := P.formSpec_shape _ (valid_parts hv).1
  have hk : ∀ j, j < (ps.map ofPD).length → (P.rd_T45 (ps.map ofPD) (j : Int)).f3.length ≤ 1000 := fun j hj => by
    have := (hS.parts j hj).few
    have := hS.few
    omega
  have hk' : ∀ p ∈ ps, p.kids.length ≤ 1000 := fun p hp => by
    obtain ⟨j, hj, rfl⟩ := List.mem_iff_getElem.1 hp
    have := hk j (by simpa using hj)
    rw [rd_of hj] at this
    simpa [ofPD, at_, List.getD_eq_getElem?_getD, List.getElem?_eq_getElem hj] using this
  exact ⟨rfl, pds_of ps, by simp, by simpa using h1000, hv, ⟨by simp; omega, fun j hj => by have := hk j hj; omega⟩, fun p hp => by
    obtain ⟨q, hq, rfl⟩ := List.mem_map.1 hp
    have := hk' q hq
    simp [ofPD]; omega, fun p hp => by have := hk' p hp; omega⟩
theorem made_of {w : World} {base : Nat} {vp vo : Value} {kv : List Value} {ps : List PD} {l0 : List P.Pt} {offs : List Nat} (h : TreeAt w base vp vo kv ps offs) (hs : Src0 l0 ps) (hL : LW w) : ∃ A, vp = .slice A l0.length l0.length ∧ Made w A l0 := by
  obtain ⟨A, hv, hF⟩ := tree_F h (by rw [hs.len]; have := hs.few; omega) hs.kids'
  rw [hs.eq] at hF
  rw [hs.len] at hF hv
  exact ⟨A, hv, ⟨hF, Nat.le_refl _, hs.small, hL.tab, tab_big hL⟩, hL⟩

end Go.Proofs.YtghhnnbbjlipcaaGreatDoor.X
