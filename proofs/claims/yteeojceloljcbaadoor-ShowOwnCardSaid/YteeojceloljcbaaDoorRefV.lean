/-
  The document's nests, Valid and Nest: the plain law.
-/
import Derived.Test.YteeojceloljcbaaDoorRefL
set_option linter.unusedVariables false
set_option linter.unusedSimpArgs false
namespace Go.Proofs.YteeojceloljcbaaDoor.P
open Go.RowKit Go.Proofs.YteeojceloljcbaaDoorW.PrintWords Go.Proofs.YteeojceloljcbaaDoorW.PrintLast
theorem kidNest_keeps (l0 : List Pt) (p : Pt) (below : Int) (out : List Int) (x : Int) (i : Nat) (hx0 : 0 ≤ x) (hx : x < (i : Int)) : (kidNest l0 p below out x).getD i 0 = out.getD i 0 := by
  simp only [kidNest, List.getD_eq_getElem?_getD]
  rw [List.getElem?_set_ne (by omega)]
/-- One kid, the document's way. -/
theorem ref_kid (l0 : List Pt) (p : Pt) (out : List Int) (i : Nat) (hi : i < l0.length) (hp : rd_T45 l0 (i : Int) = p) (b round : Int) (j : Nat) (hj : j < p.f3.length) (x : Int) (hx : rd p.f3 (j : Int) = x) (hk0 : 0 ≤ x) (hk1 : x < (i : Int)) (hlen : out.length = l0.length) (hn : p.f3.length ≤ 1000)
    (hb : out.getD i 0 = b) (hb0 : 0 ≤ b + round) (hb1 : b + round ≤ 10000) (r : List Int)
    (h : Ev (fun k => berthref13_nests.l1 k (kidNest l0 p (b + round) out x) (i : Int) p.f0 round ((j + 1 : Nat) : Int) l0) r) :
    Ev (fun k => berthref13_nests.l1 k out (i : Int) p.f0 round (j : Int) l0) r := by
  revert hx hb
  have hxt : x.toNat < out.length := by omega
  have hxo : x < (out.length : Int) := by omega
  have hxl : x < (l0.length : Int) := by omega
  have hw : wrap64 ((j : Int) + 1) = ((j + 1 : Nat) : Int) := by unfold wrap64; omega
  have hjl : (j : Int) < (p.f3.length : Int) := by omega
  have hj0 : (0 : Int) ≤ (j : Int) := by omega
  have hi0 : (0 : Int) ≤ (i : Int) := by omega
  have hil : (i : Int) < (l0.length : Int) := by omega
  have hio : (i : Int) < (out.length : Int) := by omega
  have hwb : wrap64 (b + round) = b + round := by unfold wrap64; omega
  have hwb1 : wrap64 (b + round + 1) = b + round + 1 := by unfold wrap64; omega
  have hxe : (x.toNat : Int) = x := by omega
  intro hx hb
  have hro : rd out (i : Int) = b := by rw [← hb]; simp [rd]
  have hrs : rd (out.set x.toNat (b + round)) x = b + round := by
    have := rd_set out x.toNat (b + round) hxt
    rwa [hxe] at this
  refine Ev.step (f := fun k => (berthref13_brackets.f k p.f0 (rdp l0 x).f0).bind fun t => if t = true then berthref13_nests.l1 k ((out.set x.toNat (b + round)).set x.toNat (b + round + 1)) (i : Int) p.f0 round ((j + 1 : Nat) : Int) l0 else berthref13_nests.l1 k (out.set x.toNat (b + round)) (i : Int) p.f0 round ((j + 1 : Nat) : Int) l0) (fun k => ?_) ?_
  · simp only [berthref13_nests.l1, hp, hx, hro, hwb, if_pos hi0, if_pos hil, if_pos hjl, if_pos hj0, if_pos hio, if_pos hk0, if_pos hxo, if_pos hxl, Option.bind_some, hw, hrs, hwb1]
  · refine Ev.bind (ref_brackets_ev _ _) ?_
    cases hbr : brackB p.f0 (rdp l0 x).f0 with
    | true =>
      simp only [if_true]
      have e : (out.set x.toNat (b + round)).set x.toNat (b + round + 1) = kidNest l0 p (b + round) out x := by simp [kidNest, hbr]
      rw [e]; exact h
    | false =>
      simp only [Bool.false_eq_true, if_false]
      have e : out.set x.toNat (b + round) = kidNest l0 p (b + round) out x := by simp [kidNest, hbr]
      rw [e]; exact h
theorem ref_kids (l0 : List Pt) (hn0 : l0.length ≤ 1000) (p : Pt) (i : Nat) (hi : i < l0.length) (hp : rd_T45 l0 (i : Int) = p) (b round : Int) (hks : ∀ k ∈ p.f3, 0 ≤ k ∧ k < (i : Int)) (hn : p.f3.length ≤ 1000) (hb0 : 0 ≤ b + round) (hb1 : b + round ≤ 10000) (r : List Int) :
    ∀ (d j : Nat) (out : List Int), d = p.f3.length - j → j ≤ p.f3.length → out.length = l0.length → out.getD i 0 = b → Ev (fun k => berthref13_nests.l0 k ((p.f3.drop j).foldl (kidNest l0 p (b + round)) out) ((i : Int) - 1) l0) r →
      Ev (fun k => berthref13_nests.l1 k out (i : Int) p.f0 round (j : Int) l0) r
  | 0, j, out, hd, hj, hlen, hb, h => by
    obtain rfl : j = p.f3.length := by omega
    have hw : wrap64 ((i : Int) - 1) = (i : Int) - 1 := by unfold wrap64; omega
    have hi0 : (0 : Int) ≤ (i : Int) := by omega
    have hil : (i : Int) < (l0.length : Int) := by omega
    refine Ev.step (f := fun k => berthref13_nests.l0 k out ((i : Int) - 1) l0) (fun k => ?_) (by simpa using h)
    simp only [berthref13_nests.l1, hp, if_pos hi0, if_pos hil, if_neg (Int.lt_irrefl _), hw]
  | d + 1, j, out, hd, hj, hlen, hb, h => by
    have hlt : j < p.f3.length := by omega
    have hk := hks p.f3[j] (List.getElem_mem hlt)
    have hr : rd p.f3 (j : Int) = p.f3[j] := by simp [rd, List.getD_eq_getElem?_getD, List.getElem?_eq_getElem hlt]
    have hd' : d = p.f3.length - (j + 1) := by omega
    refine ref_kid l0 p out i hi hp b round j hlt _ hr hk.1 hk.2 hlen hn hb hb0 hb1 r ?_
    refine ref_kids l0 hn0 p i hi hp b round hks hn hb0 hb1 r d (j + 1) _ hd' hlt (by rw [kidNest_len]; exact hlen) (by rw [kidNest_keeps _ _ _ _ _ _ hk.1 hk.2]; exact hb) ?_
    rwa [List.drop_eq_getElem_cons hlt, List.foldl_cons] at h
theorem ref_nests_go (l0 : List Pt) (hS : Shape l0) : ∀ (i : Nat) (out : List Int), i ≤ l0.length → out.length = l0.length → Within (2 * (l0.length - i)) out →
    Ev (fun k => berthref13_nests.l0 k out ((i : Int) - 1) l0) (nestsGo l0 i out)
  | 0, out, hi, hlen, hw => by
    refine Ev.step (f := fun _ => some out) (fun k => ?_) (Ev.now _)
    simp [berthref13_nests.l0]
  | i + 1, out, hi, hlen, hw => by
    have hP := hS.parts i (by omega)
    have hf := hS.few
    have e : ((i + 1 : Nat) : Int) - 1 = (i : Int) := by omega
    rw [e]
    generalize hp : rd_T45 l0 (i : Int) = p
    have hwi := hw.getD (by omega) i
    have hrb := roundB_le p.f0
    have hbel0 : 0 ≤ out.getD i 0 + roundB p.f0 := by omega
    have hbel1 : out.getD i 0 + roundB p.f0 ≤ 10000 := by omega
    have h1 : (i : Int) ≥ 0 := by omega
    have h2 : (i : Int) < (l0.length : Int) := by omega
    have hkids : ∀ k ∈ p.f3, 0 ≤ k ∧ k < (i : Int) := fun k hk => hP.kids k (by rw [hp]; exact hk)
    have hfew : p.f3.length ≤ 1000 := by have := hP.few; rw [hp] at this; omega
    have hil : i < l0.length := by omega
    have key : Ev (fun k => berthref13_nests.l1 k out (i : Int) p.f0 (roundB p.f0) 0 l0) (nestsGo l0 (i + 1) out) := by
      refine ref_kids l0 hf p i hil hp (out.getD i 0) (roundB p.f0) hkids hfew hbel0 hbel1 _ p.f3.length 0 out (by omega) (Nat.zero_le _) hlen rfl ?_
      rw [List.drop_zero]
      have := ref_nests_go l0 hS i _ (by omega) (by rw [foldl_len]; exact hlen) (foldl_within l0 p (out.getD i 0 + roundB p.f0) (2 * (l0.length - i)) hbel0 (by omega) p.f3 out (hw.mono (by omega)))
      have en : nestsGo l0 (i + 1) out = nestsGo l0 i (p.f3.foldl (kidNest l0 p (out.getD i 0 + roundB p.f0)) out) := by simp only [nestsGo, hp]
      rw [en]
      exact this
    have hi0 : (0 : Int) ≤ (i : Int) := h1
    have k2 : ∀ x : Int, x = roundB p.f0 → Ev (fun k => berthref13_nests.j2 k out (i : Int) p.f0 x l0) (nestsGo l0 (i + 1) out) := fun x hx => by
      subst hx
      exact Ev.step (f := fun k => berthref13_nests.l1 k out (i : Int) p.f0 (roundB p.f0) 0 l0) (fun k => by simp only [berthref13_nests.j2]) key
    have k1 : ∀ c : Bool, (roundB p.f0 = if c = true then 1 else 0) → Ev (fun k => berthref13_nests.j1 k out (i : Int) p.f0 0 c l0) (nestsGo l0 (i + 1) out) := fun c hc => by
      cases c with
      | true => exact Ev.step (f := fun k => berthref13_nests.j2 k out (i : Int) p.f0 1 l0) (fun k => by simp only [berthref13_nests.j1, if_true]) (k2 1 (by rw [hc]; rfl))
      | false => exact Ev.step (f := fun k => berthref13_nests.j2 k out (i : Int) p.f0 0 l0) (fun k => by simp [berthref13_nests.j1]) (k2 0 (by rw [hc]; rfl))
    by_cases k3 : p.f0 = 3
    · exact Ev.step (f := fun k => berthref13_nests.j1 k out (i : Int) p.f0 0 true l0) (fun k => by simp only [berthref13_nests.l0, hp, if_pos h1, if_pos hi0, if_pos h2, if_pos k3]) (k1 true (by simp [roundB, k3]))
    by_cases k8 : p.f0 = 8
    · exact Ev.step (f := fun k => berthref13_nests.j1 k out (i : Int) p.f0 0 true l0) (fun k => by simp only [berthref13_nests.l0, hp, if_pos h1, if_pos hi0, if_pos h2, if_neg k3, if_pos k8]) (k1 true (by simp [roundB, k8]))
    by_cases k9 : p.f0 = 9
    · exact Ev.step (f := fun k => berthref13_nests.j1 k out (i : Int) p.f0 0 true l0) (fun k => by simp only [berthref13_nests.l0, hp, if_pos h1, if_pos hi0, if_pos h2, if_neg k3, if_neg k8, if_pos k9]) (k1 true (by simp [roundB, k9]))
    by_cases k20 : p.f0 = 20
    · exact Ev.step (f := fun k => berthref13_nests.j1 k out (i : Int) p.f0 0 true l0) (fun k => by simp only [berthref13_nests.l0, hp, if_pos h1, if_pos hi0, if_pos h2, if_neg k3, if_neg k8, if_neg k9, if_pos k20]) (k1 true (by simp [roundB, k20]))
    exact Ev.step (f := fun k => berthref13_nests.j1 k out (i : Int) p.f0 0 (p.f0 == 19) l0) (fun k => by simp only [berthref13_nests.l0, hp, if_pos h1, if_pos hi0, if_pos h2, if_neg k3, if_neg k8, if_neg k9, if_neg k20]) (k1 _ (by simp [roundB, k3, k8, k9, k20]))
theorem ref_nests_ev (l0 : List Pt) (hS : Shape l0) : Ev (fun k => berthref13_nests.f k l0) (nestsSpec l0) := by
  have hf := hS.few
  have hp := hS.pos
  have h := ref_nests_go l0 hS l0.length (List.replicate l0.length 0) (by omega) (by simp) ((within_zero _).mono (by omega))
  refine Ev.congr (f := fun k => berthref13_nests.l0 k (List.replicate l0.length 0) ((l0.length : Int) - 1) l0) (fun k => ?_) h
  have hw : wrap64 ((l0.length : Int) - 1) = (l0.length : Int) - 1 := by unfold wrap64; omega
  simp only [berthref13_nests.f, Int.toNat_natCast, hw]
  rw [if_pos (by omega), if_pos (by omega)]

/-! ### Valid and Nest -/
/-- The first place that nests too deep. -/
def deepGo : List Int → Nat → Option (Int × Int)
  | [], _ => none
  | n :: ns, i => if 32 < n then some (122, (i : Int)) else deepGo ns (i + 1)
/-- The first fault of a tree. -/
def validSpec (l0 : List Pt) : Option (Int × Int) := match formSpec l0 with
  | some f => some f
  | none => deepGo (nestsSpec l0) 0
def mostGo : List Int → Int → Int
  | [], m => m
  | n :: ns, m => mostGo ns (max m n)
/-- The nest of a tree that is valid. -/
def nestMost (l0 : List Pt) : Int := mostGo (nestsSpec l0) 0
/-- What Nest answers ahead of its error. -/
def nestOf (l0 : List Pt) : Int := if (validSpec l0).isNone then nestMost l0 else 0
theorem ref_valid_go (ns : List Int) (hn : ns.length ≤ 1000) : ∀ (d i : Nat), d = ns.length - i → i ≤ ns.length → Ev (fun k => berthref13_Valid.l0 k ns (i : Int)) (enc (deepGo (ns.drop i) i))
  | 0, i, hd, hi => by
    obtain rfl : i = ns.length := by omega
    rw [List.drop_length]
    exact Ev.step (f := fun _ => some (0, 0)) (fun k => by simp only [berthref13_Valid.l0, if_neg (Int.lt_irrefl _)]) (Ev.now _)
  | d + 1, i, hd, hi => by
    have hlt : i < ns.length := by omega
    have h1 : (i : Int) < (ns.length : Int) := by omega
    have h2 : (0 : Int) ≤ (i : Int) := by omega
    have hw1 : wrap64 ((i : Int) + 1) = ((i + 1 : Nat) : Int) := by unfold wrap64; omega
    have hr : rd ns (i : Int) = ns[i] := by simp [rd, List.getD_eq_getElem?_getD, List.getElem?_eq_getElem hlt]
    rw [List.drop_eq_getElem_cons hlt]
    by_cases h : ns[i] > 32
    · exact Ev.step (f := fun _ => some (122, (i : Int))) (fun k => by simp only [berthref13_Valid.l0, if_pos h1, if_pos h2, hr, if_pos h]) (by simp only [deepGo]; rw [if_pos h]; exact Ev.now _)
    · have ih := ref_valid_go ns hn d (i + 1) (by omega) hlt
      exact Ev.step (f := fun k => berthref13_Valid.l0 k ns ((i + 1 : Nat) : Int)) (fun k => by simp only [berthref13_Valid.l0, if_pos h1, if_pos h2, hr, if_neg h, hw1]) (by simp only [deepGo]; rw [if_neg h]; exact ih)
theorem formGo_code (l0 : List Pt) : ∀ (ps : List Pt) (i : Nat) (free : List Int) (c a : Int), formGo l0 ps i free = some (c, a) → c = 130
  | [], i, free, c, a, h => by
    simp only [formGo] at h
    split at h
    · cases h
    · injection h with h; injection h with h1 h2; exact h1.symm
  | p :: ps, i, free, c, a, h => by
    simp only [formGo] at h
    split at h
    · exact formGo_code l0 ps _ _ c a h
    · injection h with h; injection h with h1 h2; exact h1.symm
theorem formSpec_code {l0 : List Pt} {c a : Int} (h : formSpec l0 = some (c, a)) : c = 130 := by
  unfold formSpec at h
  split at h
  · injection h with h; injection h with h1 h2; exact h1.symm
  · split at h
    · injection h with h; injection h with h1 h2; exact h1.symm
    · exact formGo_code l0 _ _ _ c a h
theorem deepGo_code : ∀ (ns : List Int) (i : Nat) (c a : Int), deepGo ns i = some (c, a) → c = 122
  | [], i, c, a, h => by cases h
  | n :: ns, i, c, a, h => by
    simp only [deepGo] at h
    split at h
    · injection h with h; injection h with h1 h2; exact h1.symm
    · exact deepGo_code ns _ c a h
theorem validSpec_code {l0 : List Pt} {c a : Int} (h : validSpec l0 = some (c, a)) : c ≠ 0 := by
  unfold validSpec at h
  cases hf : formSpec l0 with
  | some f =>
    rw [hf] at h
    obtain ⟨c', a'⟩ := f
    have := formSpec_code hf
    injection h with h; injection h with h1 h2
    omega
  | none =>
    rw [hf] at h
    have := deepGo_code _ _ _ _ h
    omega
theorem ref_valid_ev (l0 : List Pt) : Ev (fun k => berthref13_Valid.f k l0) (enc (validSpec l0)) := by
  refine Ev.bind (ref_form_ev l0) ?_
  unfold validSpec
  cases hf : formSpec l0 with
  | some f =>
    obtain ⟨c, a⟩ := f
    have hc := formSpec_code hf
    exact Ev.congr (f := fun _ => some (c, a)) (fun k => if_neg (show ¬ c = 0 by omega)) (Ev.now _)
  | none =>
    have hS := formSpec_shape l0 hf
    simp only [enc, Option.getD_none, if_true]
    refine Ev.bind (ref_nests_ev l0 hS) ?_
    have hl := (nestsSpec_within l0 hS.few).2
    have := ref_valid_go (nestsSpec l0) (by have := hS.few; omega) _ 0 rfl (Nat.zero_le _)
    exact this
theorem ref_nest_go (ns : List Int) (hn : ns.length ≤ 1000) : ∀ (d i : Nat) (m : Int), d = ns.length - i → i ≤ ns.length → Ev (fun k => berthref13_Nest.l0 k ns m (i : Int)) (mostGo (ns.drop i) m, 0, 0)
  | 0, i, m, hd, hi => by
    obtain rfl : i = ns.length := by omega
    rw [List.drop_length]
    exact Ev.step (f := fun _ => some (m, 0, 0)) (fun k => by simp only [berthref13_Nest.l0, if_neg (Int.lt_irrefl _)]) (Ev.now _)
  | d + 1, i, m, hd, hi => by
    have hlt : i < ns.length := by omega
    have h1 : (i : Int) < (ns.length : Int) := by omega
    have h2 : (0 : Int) ≤ (i : Int) := by omega
    have hw1 : wrap64 ((i : Int) + 1) = ((i + 1 : Nat) : Int) := by unfold wrap64; omega
    have hr : rd ns (i : Int) = ns[i] := by simp [rd, List.getD_eq_getElem?_getD, List.getElem?_eq_getElem hlt]
    rw [List.drop_eq_getElem_cons hlt]
    have ih := ref_nest_go ns hn d (i + 1) (max m ns[i]) (by omega) hlt
    by_cases h : ns[i] > m
    · rw [Int.max_eq_right (by omega)] at ih
      exact Ev.step (f := fun k => berthref13_Nest.l0 k ns ns[i] ((i + 1 : Nat) : Int)) (fun k => by simp only [berthref13_Nest.l0, if_pos h1, if_pos h2, hr, if_pos h, hw1]) (by simp only [mostGo]; rw [Int.max_eq_right (by omega)]; exact ih)
    · rw [Int.max_eq_left (by omega)] at ih
      exact Ev.step (f := fun k => berthref13_Nest.l0 k ns m ((i + 1 : Nat) : Int)) (fun k => by simp only [berthref13_Nest.l0, if_pos h1, if_pos h2, hr, if_neg h, hw1]) (by simp only [mostGo]; rw [Int.max_eq_left (by omega)]; exact ih)
theorem ref_nest_ev (l0 : List Pt) : Ev (fun k => berthref13_Nest.f k l0) (nestOf l0, enc (validSpec l0)) := by
  refine Ev.bind (ref_valid_ev l0) ?_
  cases hv : validSpec l0 with
  | some f =>
    obtain ⟨c, a⟩ := f
    have hc := validSpec_code hv
    refine Ev.congr (f := fun _ => some (0, c, a)) (fun k => if_neg hc) ?_
    simp only [nestOf, hv, Option.isNone_some, Bool.false_eq_true, if_false, enc, Option.getD_some]
    exact Ev.now _
  | none =>
    have hf : formSpec l0 = none := by
      unfold validSpec at hv
      cases hf : formSpec l0 with
      | some f => rw [hf] at hv; cases hv
      | none => rfl
    have hS := formSpec_shape l0 hf
    simp only [enc, Option.getD_none, if_true]
    refine Ev.bind (ref_nests_ev l0 hS) ?_
    have hl := (nestsSpec_within l0 hS.few).2
    have := ref_nest_go (nestsSpec l0) (by have := hS.few; omega) _ 0 0 rfl (Nat.zero_le _)
    simp only [nestOf, hv, Option.isNone_none, if_true]
    exact this

end Go.Proofs.YteeojceloljcbaaDoor.P
