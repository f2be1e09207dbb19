/-
  The walk of show.Text.
-/
import Derived.Test.YteeojceloljcbaaDoorPart
import Derived.Test.YteeojceloljcbaaDoorNest
import Derived.Test.YteeojceloljcbaaDoorTextL
set_option linter.unusedVariables false
set_option linter.unusedSimpArgs false
namespace Go.Proofs.YteeojceloljcbaaDoor.H
open Go.RowKit Go.Proofs.YteeojceloljcbaaDoorW.PrintWords Go.Proofs.YteeojceloljcbaaDoorW.PrintLast Go.Proofs.YteeojceloljcbaaDoor.P
theorem fits_of {p : Pt} (h : partFitsB p = true) : fits p := by
  have h0 := h
  simp only [partFitsB, Bool.and_eq_true, decide_eq_true_eq] at h
  obtain ⟨⟨⟨h1, h2⟩, -⟩, h3, -⟩ := h
  refine ⟨h1, h2, fun e => ?_, fun e => ?_⟩
  · rw [e] at h3; simpa [numFitsB] using h3
  · rw [e] at h3; simpa [numFitsB] using h3
theorem part_all {base b : Nat} {A : Option Addr} {c : Nat} {l0 : List Pt} (hS : Shape l0) : ∀ (n j : Nat), j < n → j < l0.length → PartOk base b A c l0 (rend l0 n) (j : Int)
  | 0, j, h, _ => absurd h (Nat.not_lt_zero _)
  | n + 1, j, h, hj => by
    intro w bs hR hlen
    have hP := hS.parts j hj
    have hn := fit_num hP.fit
    have hsz := fit_size hP.fit
    have hfew := hS.few
    refine part_case (j : Int) (by omega) (by omega) _ rfl (fits_of hP.fit) hR ⟨?_, by have := hP.few; omega, hfew, ?_, by omega, by omega⟩ hlen
    · intro k hk
      obtain ⟨hk0, hk1⟩ := hP.kids k hk
      have hk2 : ((k.toNat : Nat) : Int) = k := by omega
      have := part_all (base := base) (b := b) (A := A) (c := c) hS n k.toNat (by omega) (by omega)
      rw [hk2] at this
      exact ⟨hk0, by omega, this⟩
    · show (rd_T45 l0 (j : Int)).f1.size ≤ 2000000
      omega
theorem join_ne (l0 : List Pt) (p : Pt) (sep : Bs) (f : Int → Bs) (ks : List Int) (hs : sep ≠ []) (h : 2 ≤ ks.length) : joinT l0 p sep f ks ≠ [] := by
  match ks, h with
  | k :: k2 :: ks, _ => simp [joinT, hs]
theorem txt_ne (l0 : List Pt) (hS : Shape l0) : txt l0 ((l0.length - 1 : Nat) : Int) ≠ [] := by
  have hp := hS.pos
  have hj : l0.length - 1 < l0.length := by omega
  rw [txt_eq l0 hS _ hj]
  have hP := (hS.parts _ hj).fit
  have hr := hS.root
  rw [show ((l0.length : Int) - 1) = ((l0.length - 1 : Nat) : Int) by omega] at hr
  generalize rd_T45 l0 ((l0.length - 1 : Nat) : Int) = p at *
  generalize txt l0 = f
  obtain ⟨k, s, n, ks⟩ := p
  simp only [condB, decide_eq_true_eq] at hr
  simp only [partFitsB, Bool.and_eq_true] at hP
  have hk := hP.2.2
  obtain ⟨h1, h2⟩ := hr
  have hc : k = 1 ∨ k = 2 ∨ k = 3 ∨ k = 4 ∨ k = 5 ∨ k = 6 ∨ k = 7 ∨ k = 8 ∨ k = 9 ∨ k = 10 := by omega
  rcases hc with rfl | rfl | rfl | rfl | rfl | rfl | rfl | rfl | rfl | rfl
  · simp [partT]
  · simp [partT]
  · simp [partT]
  · have hk2 : 2 ≤ ks.length := by simp [kidCountB] at hk; omega
    exact join_ne _ _ _ _ _ (by simp) hk2
  · have hk2 : 2 ≤ ks.length := by simp [kidCountB] at hk; omega
    exact join_ne _ _ _ _ _ (by simp) hk2
  · have hk2 : 2 ≤ ks.length := by simp [kidCountB] at hk; omega
    exact join_ne _ _ _ _ _ (by simp) hk2
  · have hk2 : 2 ≤ ks.length := by simp [kidCountB] at hk; omega
    show (if n = 0 then joinT l0 _ [32, 105, 110, 32] f ks else joinT l0 _ [32, 110, 111, 116, 105, 110, 32] f ks) ≠ []
    split
    · exact join_ne _ _ _ _ _ (by simp) hk2
    · exact join_ne _ _ _ _ _ (by simp) hk2
  · simp [partT, selT]
  · simp [partT, selT]
  · simp [partT, termT]
/-- The text, or the fault. -/
def textSpec (l0 : List Pt) : Bs × Option (Int × Int) := match validSpec l0 with
  | some f => ([], some f)
  | none => if 4096 < (txt l0 ((l0.length - 1 : Nat) : Int)).length then ([], some (131, -1)) else (txt l0 ((l0.length - 1 : Nat) : Int), none)
/-- What Text answers. -/
def TextAns (w : World) (s : Bs) (o : Option (Int × Int)) (e : Ending) (w' : World) : Prop := ∃ v, e = .returned (.tuple #[.string ⟨s.toArray⟩, v]) ∧ ErrIs w' v o ∧ Below w.heap.size w w'

set_option maxHeartbeats 4000000 in
set_option maxRecDepth 100000 in
theorem show_text (A0 : Option Addr) (c0 : Nat) (l0 : List Pt) (w : World) (hr : Kd.F k45 w (fun _ => True) A0 l0.length l0) (hc : l0.length ≤ c0)
    (ht : Lib.TabIs Tryd.prog w "internal/strconv.uint64pow10" .u64 Lib.pow10Tab) (hg : 0 < w.heap.size) :
    Calls Tryd.prog 15 #[.agg #[.slice A0 l0.length c0]] w (TextAns w (textSpec l0).1 (textSpec l0).2) := by
  have HR := Lib.hid (Kd.F_mono (Kd.F_bound hr) (fun _ h => h.2) : Kd.F k45 w (fun k => k < w.heap.size) A0 l0.length l0)
  have HC := Lib.hid hc
  have HT := Lib.hid ht
  have HG := Lib.hid hg
  clear hr hc ht hg
  have HW := Lib.hid ((Below.refl w.heap.size w).alloc (Nat.le_refl _) (.cells #[.slice A0 l0.length c0] 24))
  have HV := Lib.hid (show_valid A0 c0 l0)
  cases hv : validSpec l0 with
  | some f =>
    have hts : textSpec l0 = ([], some f) := by simp [textSpec, hv]
    rw [hts]
    rw [hv] at HV
    clear hv hts
    go_enter Tryd.func15, Tryd.ntmps15
    go_wp2_with (go_at_call 11; refine (HV.out _ (Kd.C_below (Kd.F_now HR.out) HW.out) HC.out).mono ?_; rintro e w1 ⟨v, rfl, hE, hB⟩; obtain ⟨fc, fa⟩ := f; obtain ⟨g, rfl, hrest⟩ := hE; have HE := Lib.hid hrest; clear hrest)
    go_ret2
    exact ⟨_, rfl, ⟨g, rfl, HE.out⟩, below_then HW.out HW.out.size hB⟩
  | none =>
    have hf : formSpec l0 = none := by
      unfold validSpec at hv
      cases hf : formSpec l0 with
      | some f => rw [hf] at hv; cases hv
      | none => rfl
    have hS := formSpec_shape l0 hf
    have hpos := hS.pos
    have hfew := hS.few
    have hlen := txt_len l0 hf (l0.length - 1) (by omega)
    have hne := txt_ne l0 hS
    have hrt : rend l0 l0.length ((l0.length - 1 : Nat) : Int) = txt l0 ((l0.length - 1 : Nat) : Int) := rend_txt l0 hS _ _ (by omega) (by omega) (by omega)
    have hpa : ∀ b, PartOk w.heap.size b A0 c0 l0 (rend l0 l0.length) ((l0.length - 1 : Nat) : Int) := fun b => part_all hS l0.length (l0.length - 1) (by omega) (by omega)
    have hts : textSpec l0 = if 4096 < (txt l0 ((l0.length - 1 : Nat) : Int)).length then ([], some (131, -1)) else (txt l0 ((l0.length - 1 : Nat) : Int), none) := by simp [textSpec, hv]
    rw [hts]
    rw [hv] at HV
    rw [show (((l0.length - 1 : Nat) : Int)) = (l0.length : Int) - 1 by omega] at hrt hpa hlen hne ⊢
    generalize ht : txt l0 ((l0.length : Int) - 1) = t at *
    have HPA := Lib.hid hpa
    have HRT := Lib.hid hrt
    have HNE := Lib.hid hne
    have HLEN := Lib.hid (show t.length ≤ 600000 by omega)
    clear hv hts hpa hrt hne hlen hS hf ht
    generalize hres : (if 4096 < t.length then (([], some (131, -1)) : Bs × Option (Int × Int)) else (t, none)) = res
    have HRES := Lib.hid hres
    clear hres
    have hwl : IntKind.i64.wrap ((l0.length : Int) - 1) = (l0.length : Int) - 1 := IntWalk.i64_in _ (by omega)
    go_enter Tryd.func15, Tryd.ntmps15
    go_wp2_with (go_at_call 11; refine (HV.out _ (Kd.C_below (Kd.F_now HR.out) HW.out) HC.out).mono ?_; rintro e w1 ⟨v, rfl, hE, hB⟩; cases hE; have HW1 := Lib.hid (below_then HW.out HW.out.size hB); have HB := Lib.hid hB; clear hB; have hc1 : w1.cell? ⟨w.heap.size, 0, none⟩ = some (.slice A0 l0.length c0) := pw_cell_below HB.out (by simp); have hc2 : (w1.alloc (.cells #[.slice A0 l0.length c0, .pointer none, .slice none 0 0] 65)).cell? ⟨w.heap.size, 0, none⟩ = some (.slice A0 l0.length c0) := pw_cell_below ((Below.refl _ _).alloc (Nat.le_refl _) _) hc1)
    go_wp2_with fail
    have K1 := Lib.hid (HW1.out.alloc HW1.out.size (.cells #[.slice A0 l0.length c0, .pointer none, .slice none 0 0] 65))
    have R1 : Hid (Rdy w.heap.size w1.heap.size A0 c0 l0 [] (w1.alloc (.cells #[.slice A0 l0.length c0, .pointer none, .slice none 0 0] 65))) :=
      Lib.hid ⟨.inl ⟨HW1.out.size, _, Go.heap_alloc_new _ _, ⟨by simp [Lib.byteCells], .inl ⟨rfl, rfl⟩⟩, by simp [Value.ownBlock]⟩, Kd.F_step HR.out (fun j hj _ => K1.out.block j hj), K1.out.size, var?_below K1.out gTab HG.out HT.out, HG.out⟩
    refine (HPA.out w1.heap.size _ [] R1.out (by rw [HRT.out]; have := HLEN.out; simp; omega)).mono ?_
    rintro e w5 ⟨rfl, i5, k5⟩
    rw [HRT.out, List.nil_append] at i5
    have I5 := Lib.hid i5
    have B5 := Lib.hid (K1.out.trans (k5.bel.mono (Nat.le_refl _)))
    clear i5 k5 hc1 hc2
    by_cases hlong : 4096 < t.length
    · have hlI : (4096 : Int) < (t.length : Int) := by omega
      have HR2 : Hid (res = ([], some (131, -1))) := Lib.hid (by rw [← HRES.out, if_pos hlong])
      clear hlong
      go_wp2_with (first | (go_at_call 27; refine (builderLen_any _ _ _ _ _ I5.out).mono ?_; rintro e w6 ⟨rfl, rfl⟩) | (go_at_call 25; refine (show_fault _ _ _).mono ?_; rintro e w7 ⟨rfl, rfl⟩))
      go_ret2
      rw [HR2.out]
      exact ⟨_, rfl, ErrIs.new _ _ _ rfl, B5.out.alloc B5.out.size _⟩
    · have hlI : ¬ ((4096 : Int) < (t.length : Int)) := by omega
      have hlB : decide ((4096 : Int) < (t.length : Int)) = false := decide_eq_false hlI
      have HR2 : Hid (res = (t, none)) := Lib.hid (by rw [← HRES.out, if_neg hlong])
      clear hlong
      go_wp2_with (first | (go_at_call 27; refine (builderLen_any _ _ _ _ _ I5.out).mono ?_; rintro e w6 ⟨rfl, rfl⟩) | (go_at_call 28; refine (builderString_any _ _ _ _ _ I5.out HNE.out).mono ?_; rintro e w7 ⟨rfl, hb7⟩))
      go_ret2
      rw [HR2.out]
      exact ⟨_, rfl, rfl, B5.out.trans hb7⟩

end Go.Proofs.YteeojceloljcbaaDoor.H
