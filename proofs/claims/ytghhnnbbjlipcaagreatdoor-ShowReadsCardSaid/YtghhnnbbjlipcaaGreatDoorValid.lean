/-
  What a right shape says of every part; the nests.
  Both nests (the program's and the document's) are nestsSpec, for a tree whose shape is right.
  The document's shape is the program's shape: the plain law.
  The document's nests, Valid and Nest: the plain law.
-/
import Derived.Test.YtghhnnbbjlipcaaGreatDoorWrite
import Derived.Test.YtghhnnbbjlipcaaGreatDoorKNests
set_option linter.unusedVariables false
set_option linter.unusedSimpArgs false
namespace Go.Proofs.YtghhnnbbjlipcaaGreatDoor.P
open Go.RowKit Go.Proofs.YtghhnnbbjlipcaaGreatDoorW.PrintWords Go.Proofs.YtghhnnbbjlipcaaGreatDoorW.PrintLast
/-- What holds of the part at place j of a tree whose shape is right. -/
structure PartAt (l0 : List Pt) (j : Nat) : Prop where
  fit : partFitsB (rd_T45 l0 (j : Int)) = true
  kids : ∀ k ∈ (rd_T45 l0 (j : Int)).f3, 0 ≤ k ∧ k < (j : Int)
  few : (rd_T45 l0 (j : Int)).f3.length ≤ j
  class_ : ∀ k ∈ (rd_T45 l0 (j : Int)).f3, kidFitsB (rd_T45 l0 (j : Int)).f0 (rd_T45 l0 k).f0 = true
theorem stepB_part (l0 : List Pt) (j : Nat) (free : List Int) (hf : ∀ y ∈ free, 0 ≤ y ∧ y < (j : Int)) (hl : free.length ≤ j) (h : stepB l0 (rd_T45 l0 (j : Int)) free = true) : PartAt l0 j := by
  simp only [stepB, Bool.and_eq_true, beq_iff_eq, List.all_eq_true, decide_eq_true_eq] at h
  obtain ⟨⟨⟨h1, h2⟩, h3⟩, h4⟩ := h
  refine ⟨h1, fun k hk => hf k ?_, by omega, h4⟩
  rw [h3] at hk
  exact List.mem_of_mem_drop hk
theorem stepF_mem {p : Pt} {j : Nat} {free : List Int} (hf : ∀ y ∈ free, 0 ≤ y ∧ y < (j : Int)) : ∀ y ∈ stepF p j free, 0 ≤ y ∧ y < ((j + 1 : Nat) : Int) := by
  intro y hy
  rcases List.mem_append.1 hy with hy | hy
  · have := hf y (List.mem_of_mem_take hy); omega
  · have := List.mem_singleton.1 hy; omega
theorem stepF_len {p : Pt} {j : Nat} {free : List Int} (hl : free.length ≤ j) : (stepF p j free).length ≤ j + 1 := by
  simp [stepF]; omega
theorem formGo_parts (l0 : List Pt) : ∀ (d i : Nat) (free : List Int), d = l0.length - i → i ≤ l0.length → (∀ y ∈ free, 0 ≤ y ∧ y < (i : Int)) → free.length ≤ i → formGo l0 (l0.drop i) i free = none →
    (∀ j, i ≤ j → j < l0.length → PartAt l0 j) ∧ condB (rd_T45 l0 (l0.length - 1 : Int)).f0 = true
  | 0, i, free, hd, hi, hf, hl, h => by
    obtain rfl : i = l0.length := by omega
    rw [List.drop_length] at h
    refine ⟨fun j h1 h2 => by omega, ?_⟩
    simp only [formGo] at h
    cases hc : condB (rd_T45 l0 (l0.length - 1 : Int)).f0 with
    | true => rfl
    | false => simp [hc] at h
  | d + 1, i, free, hd, hi, hf, hl, h => by
    have hlt : i < l0.length := by omega
    cases hs : stepB l0 (rd_T45 l0 (i : Int)) free with
    | false => rw [formGo_no l0 i free hlt hs] at h; cases h
    | true =>
      rw [formGo_yes l0 i free hlt hs] at h
      obtain ⟨h1, h2⟩ := formGo_parts l0 d (i + 1) _ (by omega) (by omega) (stepF_mem hf) (stepF_len hl) h
      refine ⟨fun j hj hjl => ?_, h2⟩
      by_cases e : j = i
      · subst e; exact stepB_part l0 j free hf hl hs
      · exact h1 j (by omega) hjl
/-- A tree whose shape is right. -/
structure Shape (l0 : List Pt) : Prop where
  pos : 0 < l0.length
  few : l0.length ≤ 1000
  parts : ∀ j, j < l0.length → PartAt l0 j
  root : condB (rd_T45 l0 (l0.length - 1 : Int)).f0 = true
theorem formSpec_shape (l0 : List Pt) (h : formSpec l0 = none) : Shape l0 := by
  unfold formSpec at h
  by_cases h0 : l0.length = 0
  · simp [h0] at h
  · by_cases h1 : 1000 < l0.length
    · simp [h0, h1] at h
    · simp only [h0, h1, if_false] at h
      obtain ⟨h2, h3⟩ := formGo_parts l0 l0.length 0 [] (by omega) (by omega) (fun y hy => by cases hy) (by simp) h
      exact ⟨by omega, by omega, fun j hj => h2 j (by omega) hj, h3⟩

/-! ### The nests -/
def roundB (k : Int) : Int := if k = 3 ∨ k = 8 ∨ k = 9 ∨ k = 19 ∨ k = 20 then 1 else 0
def kidNest (l0 : List Pt) (p : Pt) (below : Int) (out : List Int) (k : Int) : List Int := out.set k.toNat (below + (if brackB p.f0 (rd_T45 l0 k).f0 then 1 else 0))
/-- The parts below place i, from the last one on. -/
def nestsGo (l0 : List Pt) : Nat → List Int → List Int
  | 0, out => out
  | i + 1, out => nestsGo l0 i ((rd_T45 l0 (i : Int)).f3.foldl (kidNest l0 (rd_T45 l0 (i : Int)) (out.getD i 0 + roundB (rd_T45 l0 (i : Int)).f0)) out)
def nestsSpec (l0 : List Pt) : List Int := nestsGo l0 l0.length (List.replicate l0.length 0)
/-- All numbers lie between 0 and m. -/
def Within (m : Int) (out : List Int) : Prop := ∀ y ∈ out, 0 ≤ y ∧ y ≤ m
theorem Within.set {m : Int} {out : List Int} (h : Within m out) (i : Nat) (x : Int) (hx : 0 ≤ x ∧ x ≤ m) : Within m (out.set i x) := by
  intro y hy
  rcases List.mem_or_eq_of_mem_set hy with hy | rfl
  · exact h y hy
  · exact hx
theorem Within.mono {m m' : Int} {out : List Int} (h : Within m out) (hm : m ≤ m') : Within m' out := fun y hy => ⟨(h y hy).1, Int.le_trans (h y hy).2 hm⟩
theorem Within.getD {m : Int} {out : List Int} (h : Within m out) (h0 : 0 ≤ m) (i : Nat) : 0 ≤ out.getD i 0 ∧ out.getD i 0 ≤ m := by
  rw [List.getD_eq_getElem?_getD]
  cases e : out[i]? with
  | none => simpa using h0
  | some y => simpa using h y (List.mem_of_getElem? e)

end Go.Proofs.YtghhnnbbjlipcaaGreatDoor.P
set_option linter.unusedVariables false
set_option linter.unusedSimpArgs false
namespace Go.Proofs.YtghhnnbbjlipcaaGreatDoor.P
open Go.RowKit Go.Proofs.YtghhnnbbjlipcaaGreatDoorW.PrintWords Go.Proofs.YtghhnnbbjlipcaaGreatDoorW.PrintLast
abbrev rdp (l0 : List Pt) (i : Int) : Pt := rd_T45 l0 i
theorem bracketed_ev (a b : Int) : Ev (fun k => show_bracketed.f k a b) (brackB a b) := Ev.of (fun k => show_bracketed.mono a b k) (bracketed_eq a b)
theorem rd_set (out : List Int) (i : Nat) (x : Int) (h : i < out.length) : rd (out.set i x) (i : Int) = x := by
  simp [rd, List.getD_eq_getElem?_getD, List.getElem?_set, h]

/-- One kid, the program's way. -/
theorem show_kid (l0 : List Pt) (p : Pt) (out : List Int) (i below : Int) (ks : List Int) (j : Nat) (hj : j < ks.length) (hk0 : 0 ≤ ks[j]) (hk1 : ks[j] < (l0.length : Int)) (hlen : out.length = l0.length) (hn : ks.length ≤ 1000)
    (hb0 : 0 ≤ below) (hb1 : below ≤ 10000) (r : List Int)
    (h : Ev (fun k => show_nests.l1 k l0 (kidNest l0 p below out ks[j]) i below ks (ks.length : Int) ((j + 1 : Nat) : Int) p.f0 p.f1 p.f2 p.f3) r) :
    Ev (fun k => show_nests.l1 k l0 out i below ks (ks.length : Int) (j : Int) p.f0 p.f1 p.f2 p.f3) r := by
  have hr : rd ks (j : Int) = ks[j] := by simp [rd, List.getD_eq_getElem?_getD, List.getElem?_eq_getElem hj]
  obtain ⟨x, hx⟩ : ∃ x, x = ks[j] := ⟨_, rfl⟩
  rw [← hx] at hr h hk0 hk1
  have hxt : x.toNat < out.length := by omega
  have hxo : x < (out.length : Int) := by omega
  have hw : wrap64 ((j : Int) + 1) = ((j + 1 : Nat) : Int) := by unfold wrap64; omega
  have hjl : (j : Int) < (ks.length : Int) := by omega
  have hj0 : (0 : Int) ≤ (j : Int) := by omega
  refine Ev.step (f := fun k => (show_bracketed.f k p.f0 (rdp l0 x).f0).bind fun t116 => if t116 = true then show_nests.l1 k l0 ((out.set x.toNat below).set x.toNat (wrap64 (rd (out.set x.toNat below) x + 1))) i below ks (ks.length : Int) ((j + 1 : Nat) : Int) p.f0 p.f1 p.f2 p.f3 else show_nests.l1 k l0 (out.set x.toNat below) i below ks (ks.length : Int) ((j + 1 : Nat) : Int) p.f0 p.f1 p.f2 p.f3) (fun k => ?_) ?_
  · simp only [show_nests.l1, if_pos hjl, if_pos hj0, hr, if_pos hk0, if_pos hxo, Option.bind_some, if_pos hk1, hw]
  · refine Ev.bind (bracketed_ev _ _) ?_
    have hxe : (x.toNat : Int) = x := by omega
    have hrs : rd (out.set x.toNat below) x = below := by
      have := rd_set out x.toNat below hxt
      rwa [hxe] at this
    have hwb : wrap64 (below + 1) = below + 1 := by unfold wrap64; omega
    rw [hrs, hwb]
    cases hbr : brackB p.f0 (rdp l0 x).f0 with
    | true =>
      simp only [if_true]
      have e : (out.set x.toNat below).set x.toNat (below + 1) = kidNest l0 p below out x := by simp [kidNest, hbr]
      rw [e]; exact h
    | false =>
      simp only [Bool.false_eq_true, if_false]
      have e : out.set x.toNat below = kidNest l0 p below out x := by simp [kidNest, hbr]
      rw [e]; exact h
theorem kidNest_len (l0 : List Pt) (p : Pt) (below : Int) (out : List Int) (x : Int) : (kidNest l0 p below out x).length = out.length := by simp [kidNest]
theorem show_kids (l0 : List Pt) (p : Pt) (i below : Int) (ks : List Int) (hks : ∀ k ∈ ks, 0 ≤ k ∧ k < (l0.length : Int)) (hn : ks.length ≤ 1000) (hb0 : 0 ≤ below) (hb1 : below ≤ 10000) (r : List Int) :
    ∀ (d j : Nat) (out : List Int), d = ks.length - j → j ≤ ks.length → out.length = l0.length → Ev (fun k => show_nests.l0 k l0 ((ks.drop j).foldl (kidNest l0 p below) out) (wrap64 (i - 1))) r →
      Ev (fun k => show_nests.l1 k l0 out i below ks (ks.length : Int) (j : Int) p.f0 p.f1 p.f2 p.f3) r
  | 0, j, out, hd, hj, hlen, h => by
    obtain rfl : j = ks.length := by omega
    refine Ev.step (f := fun k => show_nests.l0 k l0 out (wrap64 (i - 1))) (fun k => ?_) (by simpa using h)
    simp only [show_nests.l1, if_neg (Int.lt_irrefl _)]
  | d + 1, j, out, hd, hj, hlen, h => by
    have hlt : j < ks.length := by omega
    have hk := hks ks[j] (List.getElem_mem hlt)
    refine show_kid l0 p out i below ks j hlt hk.1 hk.2 hlen hn hb0 hb1 r ?_
    refine show_kids l0 p i below ks hks hn hb0 hb1 r d (j + 1) _ (by omega) (by omega) (by rw [kidNest_len]; exact hlen) ?_
    rwa [List.drop_eq_getElem_cons hlt, List.foldl_cons] at h

theorem foldl_within (l0 : List Pt) (p : Pt) (below m : Int) (hb0 : 0 ≤ below) (hb1 : below + 1 ≤ m) : ∀ (ks : List Int) (out : List Int), Within m out → Within m (ks.foldl (kidNest l0 p below) out)
  | [], out, h => h
  | k :: ks, out, h => foldl_within l0 p below m hb0 hb1 ks _ (h.set _ _ (by split <;> omega))
theorem foldl_len (l0 : List Pt) (p : Pt) (below : Int) : ∀ (ks : List Int) (out : List Int), (ks.foldl (kidNest l0 p below) out).length = out.length
  | [], out => rfl
  | k :: ks, out => by rw [List.foldl_cons, foldl_len, kidNest_len]
theorem roundB_le (k : Int) : 0 ≤ roundB k ∧ roundB k ≤ 1 := by unfold roundB; split <;> omega

theorem show_nests_go (l0 : List Pt) (hS : Shape l0) : ∀ (i : Nat) (out : List Int), i ≤ l0.length → out.length = l0.length → Within (2 * (l0.length - i)) out →
    Ev (fun k => show_nests.l0 k l0 out ((i : Int) - 1)) (nestsGo l0 i out)
  | 0, out, hi, hlen, hw => by
    refine Ev.step (f := fun _ => some out) (fun k => ?_) (Ev.now _)
    simp [show_nests.l0]
  | i + 1, out, hi, hlen, hw => by
    have hP := hS.parts i (by omega)
    have hf := hS.few
    have e : ((i + 1 : Nat) : Int) - 1 = (i : Int) := by omega
    rw [e]
    generalize hp : rd_T45 l0 (i : Int) = p
    have hro : rd out (i : Int) = out.getD i 0 := by simp [rd]
    have hwi := hw.getD (by omega) i
    have hrb := roundB_le p.f0
    have hbel0 : 0 ≤ out.getD i 0 + roundB p.f0 := by omega
    have hbel1 : out.getD i 0 + roundB p.f0 ≤ 10000 := by omega
    have h1 : (i : Int) ≥ 0 := by omega
    have h2 : (i : Int) < (l0.length : Int) := by omega
    have h3 : (i : Int) < (out.length : Int) := by omega
    have hkids : ∀ k ∈ p.f3, 0 ≤ k ∧ k < (l0.length : Int) := fun k hk => by
      have := hP.kids k (by rw [hp]; exact hk); omega
    have hfew : p.f3.length ≤ 1000 := by have := hP.few; rw [hp] at this; omega
    refine Ev.step (f := fun k => show_nests.j1 k l0 out (i : Int) (out.getD i 0 + roundB p.f0) p.f0 p.f1 p.f2 p.f3) (fun k => ?_) ?_
    · have hw1 : wrap64 (out.getD i 0 + 1) = out.getD i 0 + 1 := by unfold wrap64; omega
      have hi0 : (0 : Int) ≤ (i : Int) := h1
      simp only [show_nests.l0, hp, hro, if_pos h1, if_pos hi0, if_pos h2, if_pos h3, hw1, roundB]
      by_cases k3 : p.f0 = 3
      · simp [k3]
      · by_cases k8 : p.f0 = 8
        · simp [k8]
        · by_cases k9 : p.f0 = 9
          · simp [k9]
          · by_cases k20 : p.f0 = 20
            · simp [k20]
            · by_cases k19 : p.f0 = 19
              · simp [k19]
              · simp [k3, k8, k9, k20, k19]
    · refine Ev.step (f := fun k => show_nests.l1 k l0 out (i : Int) (out.getD i 0 + roundB p.f0) p.f3 (p.f3.length : Int) 0 p.f0 p.f1 p.f2 p.f3) (fun k => by simp only [show_nests.j1]) ?_
      refine show_kids l0 p (i : Int) _ p.f3 hkids hfew hbel0 hbel1 _ p.f3.length 0 out (by omega) (by omega) hlen ?_
      have hwi1 : wrap64 ((i : Int) - 1) = (i : Int) - 1 := by unfold wrap64; omega
      rw [hwi1, List.drop_zero]
      have := show_nests_go l0 hS i _ (by omega) (by rw [foldl_len]; exact hlen) (foldl_within l0 p (out.getD i 0 + roundB p.f0) (2 * (l0.length - i)) hbel0 (by omega) p.f3 out (hw.mono (by omega)))
      have en : nestsGo l0 (i + 1) out = nestsGo l0 i (p.f3.foldl (kidNest l0 p (out.getD i 0 + roundB p.f0)) out) := by simp only [nestsGo, hp]
      rw [en]
      exact this
theorem within_zero (n : Nat) : Within 0 (List.replicate n (0 : Int)) := fun y hy => by
  have := List.eq_of_mem_replicate hy; omega
theorem show_nests_ev (l0 : List Pt) (hS : Shape l0) : Ev (fun k => show_nests.f k l0) (nestsSpec l0) := by
  have hf := hS.few
  have hp := hS.pos
  have h := show_nests_go l0 hS l0.length (List.replicate l0.length 0) (by omega) (by simp) ((within_zero _).mono (by omega))
  refine Ev.congr (f := fun k => show_nests.l0 k l0 (List.replicate l0.length 0) ((l0.length : Int) - 1)) (fun k => ?_) h
  have hw : wrap64 ((l0.length : Int) - 1) = (l0.length : Int) - 1 := by unfold wrap64; omega
  simp only [show_nests.f, Int.toNat_natCast, hw]
  rw [if_pos (by omega), if_pos (by omega)]
theorem nestsGo_within (l0 : List Pt) (hS : l0.length ≤ 1000) : ∀ (i : Nat) (out : List Int), i ≤ l0.length → out.length = l0.length → Within (2 * (l0.length - i)) out → Within (2 * l0.length) (nestsGo l0 i out) ∧ (nestsGo l0 i out).length = l0.length
  | 0, out, _, hlen, hw => ⟨hw.mono (by omega), hlen⟩
  | i + 1, out, hi, hlen, hw => by
    simp only [nestsGo]
    have hwi := hw.getD (by omega) i
    have hrb := roundB_le (rd_T45 l0 (i : Int)).f0
    exact nestsGo_within l0 hS i _ (by omega) (by rw [foldl_len]; exact hlen) (foldl_within l0 _ _ (2 * (l0.length - i)) (by omega) (by omega) _ out (hw.mono (by omega)))
theorem nestsSpec_within (l0 : List Pt) (hS : l0.length ≤ 1000) : Within (2 * l0.length) (nestsSpec l0) ∧ (nestsSpec l0).length = l0.length :=
  nestsGo_within l0 hS l0.length _ (by omega) (by simp) ((within_zero _).mono (by omega))

end Go.Proofs.YtghhnnbbjlipcaaGreatDoor.P
set_option linter.unusedVariables false
set_option linter.unusedSimpArgs false
namespace Go.Proofs.YtghhnnbbjlipcaaGreatDoor.P
open Go.RowKit Go.Proofs.YtghhnnbbjlipcaaGreatDoorW.PrintWords Go.Proofs.YtghhnnbbjlipcaaGreatDoorW.PrintLast

/-- The fault as code and place. -/
def enc (o : Option (Int × Int)) : Int × Int := o.getD (0, 0)
end Go.Proofs.YtghhnnbbjlipcaaGreatDoor.P
set_option linter.unusedVariables false
set_option linter.unusedSimpArgs false
namespace Go.Proofs.YtghhnnbbjlipcaaGreatDoor.P
open Go.RowKit Go.Proofs.YtghhnnbbjlipcaaGreatDoorW.PrintWords Go.Proofs.YtghhnnbbjlipcaaGreatDoorW.PrintLast
/-! ### Valid and Nest -/
/-- The first place that nests too deep. -/
def deepGo : List Int → Nat → Option (Int × Int)
  | [], _ => none
  | n :: ns, i => if 32 < n then some (122, (i : Int)) else deepGo ns (i + 1)
/-- The first fault of a tree. -/
def validSpec (l0 : List Pt) : Option (Int × Int) := match formSpec l0 with
  | some f => some f
  | none => deepGo (nestsSpec l0) 0
def mostGo : List Int → Int → Int
  | [], m => m
  | n :: ns, m => mostGo ns (max m n)
/-- The nest of a tree that is valid. -/
def nestMost (l0 : List Pt) : Int := mostGo (nestsSpec l0) 0
/-- What Nest answers ahead of its error. -/
def nestOf (l0 : List Pt) : Int := if (validSpec l0).isNone then nestMost l0 else 0
theorem formGo_code (l0 : List Pt) : ∀ (ps : List Pt) (i : Nat) (free : List Int) (c a : Int), formGo l0 ps i free = some (c, a) → c = 130
  | [], i, free, c, a, h => by
    simp only [formGo] at h
    split at h
    · cases h
    · injection h with h; injection h with h1 h2; exact h1.symm
  | p :: ps, i, free, c, a, h => by
    simp only [formGo] at h
    split at h
    · exact formGo_code l0 ps _ _ c a h
    · injection h with h; injection h with h1 h2; exact h1.symm
theorem formSpec_code {l0 : List Pt} {c a : Int} (h : formSpec l0 = some (c, a)) : c = 130 := by
  unfold formSpec at h
  split at h
  · injection h with h; injection h with h1 h2; exact h1.symm
  · split at h
    · injection h with h; injection h with h1 h2; exact h1.symm
    · exact formGo_code l0 _ _ _ c a h
theorem deepGo_code : ∀ (ns : List Int) (i : Nat) (c a : Int), deepGo ns i = some (c, a) → c = 122
  | [], i, c, a, h => by cases h
  | n :: ns, i, c, a, h => by
    simp only [deepGo] at h
    split at h
    · injection h with h; injection h with h1 h2; exact h1.symm
    · exact deepGo_code ns _ c a h
end Go.Proofs.YtghhnnbbjlipcaaGreatDoor.P
