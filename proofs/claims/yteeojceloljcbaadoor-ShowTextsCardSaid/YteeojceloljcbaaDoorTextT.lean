/-
  The document's Text: walked.
-/
import Derived.Test.YteeojceloljcbaaDoorTextQ
import Derived.Test.YteeojceloljcbaaDoorTextS
import Derived.Test.YteeojceloljcbaaDoorTextP
import Derived.Test.YteeojceloljcbaaDoorLawV
set_option linter.unusedVariables false
set_option linter.unusedSimpArgs false
namespace Go.Proofs.YteeojceloljcbaaDoor.H
open Go.RowKit Go.Proofs.YteeojceloljcbaaDoorW.PrintWords Go.Proofs.YteeojceloljcbaaDoorW.PrintLast Go.Proofs.YteeojceloljcbaaDoor.P

/-- The document's text of a part of a right tree. -/
theorem refText_part {A : Option Addr} {c c3 g n : Nat} {l0 : List Pt} {f : Int → Bs} {A3 : Option Addr} {w : World} (p : Pt) (h : TIn w A l0 f p A3 g n) (hf : partFitsB p = true) (hlen : (partT l0 p f).length ≤ 1000000) :
    Calls Tryd.prog 29 #[.agg #[.slice A l0.length c], pval p A3 c3, .slice (some ⟨g, 0, none⟩) n n] w fun e w' => e = .returned (.string ⟨(partT l0 p f).toArray⟩) ∧ Below w.heap.size w w' := by
  have hkid := fun x hx => partT_kid l0 p f hf x hx
  obtain ⟨k, s, m, ks⟩ := p
  simp only [partFitsB, Bool.and_eq_true, decide_eq_true_eq] at hf
  obtain ⟨⟨⟨hk1, hk2⟩, -⟩, hnum, hc⟩ := hf
  have one : ∀ k, (k = 8 ∨ k = 9 ∨ k = 20 ∨ k = 19) → kidCountB k (ks.length : Int) = true → ∃ x, ks = [x] := by
    intro k hk hc
    have : ks.length = 1 := by rcases hk with rfl | rfl | rfl | rfl <;> simp [kidCountB] at hc <;> omega
    exact List.length_eq_one_iff.1 this
  have hk : k = 1 ∨ k = 2 ∨ k = 3 ∨ k = 4 ∨ k = 5 ∨ k = 6 ∨ k = 7 ∨ k = 8 ∨ k = 9 ∨ k = 10 ∨ k = 11 ∨ k = 12 ∨ k = 13 ∨ k = 14 ∨ k = 15 ∨ k = 16 ∨ k = 17 ∨ k = 18 ∨ k = 19 ∨ k = 20 := by omega
  rcases hk with rfl | rfl | rfl | rfl | rfl | rfl | rfl | rfl | rfl | rfl | rfl | rfl | rfl | rfl | rfl | rfl | rfl | rfl | rfl | rfl
  · exact text_leaf 1 s m ks (by simp [leafK]) h
  · exact text_leaf 2 s m ks (by simp [leafK]) h
  · exact text3 s m ks h (by simp only [partT] at hlen; simp at hlen; omega)
  · exact text4 s m ks h hlen
  · exact text5 s m ks h hlen
  · exact text6 s m ks h hlen
  · have hm : m = 0 ∨ m = 1 := by simpa [numFitsB] using hnum
    rcases hm with rfl | rfl
    · exact text70 s ks h hlen
    · exact text71 s ks h hlen
  · obtain ⟨x, rfl⟩ := one 8 (by simp) hc
    exact text8 s m x h (Nat.le_trans (hkid x (by simp)) hlen)
  · obtain ⟨x, rfl⟩ := one 9 (by simp) hc
    exact text9 s m x h (Nat.le_trans (hkid x (by simp)) hlen)
  · exact text_leaf 10 s m ks (by simp [leafK]) h
  · exact text_leaf 11 s m ks (by simp [leafK]) h
  · exact text_leaf 12 s m ks (by simp [leafK]) h
  · exact text13 s m ks h (by simp only [partT, termT] at hlen; simp at hlen; omega)
  · exact text_leaf 14 s m ks (by simp [leafK]) h
  · exact text_leaf 15 s m ks (by simp [leafK]) h
  · exact text_leaf 16 s m ks (by simp [leafK]) h
  · exact text_leaf 17 s m ks (by simp [leafK]) h
  · exact text_leaf 18 s m ks (by simp [leafK]) h
  · obtain ⟨x, rfl⟩ := one 19 (by simp) hc
    exact text19 s m x h (Nat.le_trans (hkid x (by simp)) hlen)
  · obtain ⟨x, rfl⟩ := one 20 (by simp) hc
    exact text20 s m x h (Nat.le_trans (hkid x (by simp)) hlen)

/-- The first k texts are there. -/
structure Texts (w : World) (A : Option Addr) (c : Nat) (l0 : List Pt) (g k : Nat) (W : World) : Prop where
  bel : Below w.heap.size w W
  tree : W.heap[w.heap.size]? = some (.cells #[.slice A l0.length c] 24 (0, 0))
  past : w.heap.size < g
  row : ∃ arr, W.heap[g]? = some (.cells arr 9 (0, 0)) ∧ arr.size = l0.length ∧ ∀ j, j < k → arr[j]? = some (.string ⟨(txt l0 (j : Int)).toArray⟩) ∧ (txt l0 (j : Int)).length ≤ 4096
theorem Texts.next {w : World} {A : Option Addr} {c : Nat} {l0 : List Pt} {g k : Nat} {W W' : World} (h : Texts w A c l0 g k W) (hb : Below W.heap.size W W') : Texts w A c l0 g k W' := by
  obtain ⟨arr, h1, h2, h3⟩ := h.row
  have hg := (Array.getElem?_eq_some_iff.1 h1).1
  exact ⟨below_then h.bel h.bel.size hb, (hb.block _ (Array.getElem?_eq_some_iff.1 h.tree).1).trans h.tree, h.past, arr, (hb.block _ hg).trans h1, h2, h3⟩
theorem Texts.store {w : World} {A : Option Addr} {c : Nat} {l0 : List Pt} {g k : Nat} {W : World} (h : Texts w A c l0 g k W) (hk : k < l0.length) (hl : (txt l0 (k : Int)).length ≤ 4096) :
    Texts w A c l0 g (k + 1) (W.setCell ⟨g, k, none⟩ (.string ⟨(txt l0 (k : Int)).toArray⟩)) := by
  obtain ⟨arr, h1, h2, h3⟩ := h.row
  have hp := h.past
  refine ⟨h.bel.setCell (p := ⟨g, k, none⟩) (by simp; omega) _, ?_, h.past, _, heap_setCell_same W g k arr _ _ h1, by simpa using h2, ?_⟩
  · rw [heap_setCell_other _ _ _ _ (by simp; omega)]; exact h.tree
  · intro j hj
    by_cases e : j = k
    · subst e
      refine ⟨?_, hl⟩
      rw [Array.getElem?_setIfInBounds_self]; simp [h2, hk]
    · refine ⟨?_, (h3 j (by omega)).2⟩
      rw [Array.getElem?_setIfInBounds_ne (by omega)]
      exact (h3 j (by omega)).1
theorem Texts.at_ {w : World} {A : Option Addr} {c : Nat} {l0 : List Pt} {g k : Nat} {W : World} (h : Texts w A c l0 g k W) (ks : List Int) (hks : ∀ x ∈ ks, 0 ≤ x ∧ x < (k : Int)) (hk : k ≤ l0.length) (hl : l0.length ≤ 1000) : TextsAt W g l0.length (txt l0) ks := by
  obtain ⟨arr, h1, h2, h3⟩ := h.row
  refine ⟨(Array.getElem?_eq_some_iff.1 h1).1, hl, fun x hx => ?_⟩
  obtain ⟨a, b⟩ := hks x hx
  refine ⟨a, by omega, ?_⟩
  rw [Lib.cell_of_heap h1]
  have := (h3 x.toNat (by omega)).1
  rwa [show ((x.toNat : Nat) : Int) = x by omega] at this
theorem Texts.room {w : World} {A : Option Addr} {c : Nat} {l0 : List Pt} {g k : Nat} {W : World} (h : Texts w A c l0 g k W) (j : Nat) (hj : j < l0.length) : (∃ v, W.cell? ⟨g, j, none⟩ = some v) ∧ W.frozen? ⟨g, j, none⟩ = false := by
  obtain ⟨arr, h1, h2, h3⟩ := h.row
  refine ⟨⟨arr[j]'(by omega), ?_⟩, by simp [World.frozen?, h1]⟩
  rw [Lib.cell_of_heap h1]
  exact Array.getElem?_eq_getElem (by omega)

theorem infoStr : (Tryd.prog.info? 9).map (fun i => (i.zero, i.size, i.bytes)) = some (some (.string ⟨#[]⟩), 1, 16) := by kernel_rfl
theorem textSpec_enc (l0 : List Pt) (h : validSpec l0 = none) : textSpec l0 = if 4096 < (txt l0 ((l0.length - 1 : Nat) : Int)).length then ([], some (131, -1)) else (txt l0 ((l0.length - 1 : Nat) : Int), none) := by simp [textSpec, h]
theorem formSpec_of_valid {l0 : List Pt} (hv : validSpec l0 = none) : formSpec l0 = none := by
  unfold validSpec at hv
  cases hf : formSpec l0 with
  | some f => rw [hf] at hv; cases hv
  | none => rfl
/-- What the document's Text answers. -/
def RefText (w : World) (o : Bs × Option (Int × Int)) (e : Ending) (w' : World) : Prop := e = .returned (.tuple #[.string ⟨o.1.toArray⟩, .int .i64 (enc o.2).1, .int .i64 (enc o.2).2]) ∧ Below w.heap.size w w'

set_option maxHeartbeats 4000000 in
set_option maxRecDepth 100000 in
theorem refText_any (A : Option Addr) (c : Nat) (l0 : List Pt) (w : World) (h : Law w A c l0) :
    Calls Tryd.prog 16 #[.agg #[.slice A l0.length c]] w (RefText w (textSpec l0)) := by
  have HL := Lib.hid h
  have HV := Lib.hid (refValid_c A c l0)
  have HW := Lib.hid ((Below.refl w.heap.size w).alloc (Nat.le_refl _) (.cells #[.slice A l0.length c] 24))
  have L0 := Lib.hid (HL.out.below HW.out)
  clear h
  cases hv : validSpec l0 with
  | some f =>
    obtain ⟨fc, fa⟩ := f
    have hts : textSpec l0 = ([], some (fc, fa)) := by simp [textSpec, hv]
    have hne := validSpec_code hv
    rw [hts]
    rw [hv] at HV
    have hneB : (fc != 0) = true := by simpa using hne
    have hV2 : Hid (∀ w, Law w A c l0 → Calls Tryd.prog 9 #[.agg #[.slice A l0.length c]] w fun e w' => e = .returned (.tuple #[.int .i64 fc, .int .i64 fa]) ∧ Below w.heap.size w w') := Lib.hid HV.out
    clear hv hts hne HV
    go_enter Tryd.func16, Tryd.ntmps16
    go_wp2_with fail
    refine (hV2.out _ L0.out).mono ?_
    rintro e w1 ⟨rfl, hB⟩
    have HB := Lib.hid (below_then HW.out HW.out.size hB)
    clear hB
    go_wp2
    go_ret3
    exact ⟨rfl, HB.out⟩
  | none =>
    have hf := formSpec_of_valid hv
    have hS := formSpec_shape l0 hf
    have hpos := hS.pos
    have hfew := hS.few
    have hmost := fun j hj => txt_most l0 hf (l0.length - 1 - j) j rfl hj
    have hlen := fun j hj => txt_len l0 hf j hj
    have hts := textSpec_enc l0 hv
    rw [hv] at HV
    have hV2 : Hid (∀ w, Law w A c l0 → Calls Tryd.prog 9 #[.agg #[.slice A l0.length c]] w fun e w' => e = .returned (.tuple #[.int .i64 0, .int .i64 0]) ∧ Below w.heap.size w w') := Lib.hid HV.out
    have HS := Lib.hid hS
    have HM := Lib.hid hmost
    have HLN := Lib.hid hlen
    have HTS := Lib.hid hts
    generalize hres : textSpec l0 = res at HTS ⊢
    clear hv hf hS hmost hlen hts HV hres
    have hmk := run_make_row' (P := Tryd.prog) 69 9 (.string ⟨#[]⟩) 16 Tryd.underlying69 infoStr rfl .i64 .i64 l0.length (by omega) (by omega)
    go_enter Tryd.func16, Tryd.ntmps16
    go_wp2_with fail
    refine (hV2.out _ L0.out).mono ?_
    rintro e w1 ⟨rfl, hB⟩
    have HB := Lib.hid (below_then HW.out HW.out.size hB)
    have t0 : w1.heap[w.heap.size]? = some (.cells #[.slice A l0.length c] 24 (0, 0)) := (hB.block _ (by simp)).trans (Go.heap_alloc_new _ _)
    have t1 : w1.cell? ⟨w.heap.size, 0, none⟩ = some (.slice A l0.length c) := by rw [Lib.cell_of_heap t0]; rfl
    have hz : w.heap.size < w1.heap.size := (Array.getElem?_eq_some_iff.1 t0).1
    have T1 : Hid (Texts w A c l0 w1.heap.size 0 (w1.alloc (.cells (madeCells #[.string ⟨#[]⟩] l0.length) 9))) := Lib.hid
      ⟨HB.out.alloc (by omega) _, by rw [Below.heap_alloc _ _ _ hz]; exact t0, hz, _, Go.heap_alloc_new _ _, size_madeCells _ _, fun j hj => absurd hj (Nat.not_lt_zero _)⟩
    clear hB t0 hV2
    go_wp2_with fail
    obtain ⟨g, hg⟩ : ∃ g, g = w1.heap.size := ⟨_, rfl⟩
    rw [← hg] at T1 ⊢
    clear hg
    go_loopw [8] (fun i wr => ∃ k : Nat, k ≤ l0.length ∧ i = .int .i64 k ∧ Hid (Texts w A c l0 g k wr)) (fun i _ => l0.length - (intOf i).toNat)
    case atStart => exact ⟨0, Nat.zero_le _, rfl, T1⟩
    case round =>
      obtain ⟨k, hk, rfl, HT⟩ := hrel
      have c0 : wr.cell? ⟨w.heap.size, 0, none⟩ = some (.slice A l0.length c) := by rw [Lib.cell_of_heap HT.out.tree]; rfl
      clear t1 T1
      by_cases hlt : k < l0.length
      · have hB : decide (k < l0.length) = true := by simp; omega
        have hLr : Law wr A c l0 := HL.out.below HT.out.bel
        obtain ⟨ad, cs, eA, _, hK, hc0, _⟩ := Kd.F_get hLr.tree z45 (k : Int) (by omega) (by omega)
        subst eA
        have hp := HS.out.parts k hlt
        have htx := txt_eq l0 HS.out k hlt
        have hl1 := HLN.out k hlt
        have hl2 := HM.out k hlt
        have hpk := hp.fit
        have hkids := hp.kids
        have hfw := hp.few
        have hk' : l0.getD (k : Int).toNat z45 = rd_T45 l0 (k : Int) := rfl
        rw [hk'] at hK
        generalize rd_T45 l0 (k : Int) = p at *
        obtain ⟨A3, c3, rfl, l3, g3⟩ := k45_openF hK
        have hcc : ∀ j u, [Value.int .i64 p.f0, .string p.f1, .int .i64 p.f2, .slice A3 p.f3.length c3][j]? = some u → wr.cell? (ad.add (k * 4 + j)) = some u := hc0
        have e0 : wr.cell? (ad.add (k * 4)) = some (.int .i64 p.f0) := hcc 0 _ rfl
        have e1 : wr.cell? ⟨(ad.add (k * 4)).block, (ad.add (k * 4)).off + 1, none⟩ = some (.string p.f1) := by rw [← add_field _ _ 1 (by omega)]; exact hcc 1 _ rfl
        have e2 : wr.cell? ⟨(ad.add (k * 4)).block, (ad.add (k * 4)).off + 2, none⟩ = some (.int .i64 p.f2) := by rw [← add_field _ _ 2 (by omega)]; exact hcc 2 _ rfl
        have e3 : wr.cell? ⟨(ad.add (k * 4)).block, (ad.add (k * 4)).off + 3, none⟩ = some (.slice A3 p.f3.length c3) := by rw [← add_field _ _ 3 (by omega)]; exact hcc 3 _ rfl
        have hnum := fit_num hpk
        have TI : TIn wr (some ad) l0 (txt l0) p A3 g l0.length := ⟨hLr.tree, g3, fun x hx => by have := hkids x hx; omega, hfew, by omega, HT.out.at_ p.f3 hkids hk hfew, by have := fit_size hpk; omega, by omega, by omega⟩
        have TC : Hid (∀ W, Below wr.heap.size wr W → Calls Tryd.prog 29 #[.agg #[.slice (some ad) l0.length c], .agg #[.int .i64 p.f0, .string p.f1, .int .i64 p.f2, .slice A3 p.f3.length c3], .slice (some ⟨g, 0, none⟩) l0.length l0.length] W fun e w' => e = .returned (.string ⟨(txt l0 (k : Int)).toArray⟩) ∧ Below W.heap.size W w') := Lib.hid (fun W hW => by
          rw [htx]
          exact refText_part p (TI.below hW) hpk (by rw [← htx]; omega))
        have hlenB : (txt l0 (k : Int)).length ≤ 1000000 := by omega
        have HL2 := Lib.hid hl2
        clear hcc hc0 hK g3 TI hLr hp htx hl1 hl2 hpk hkids hfw hk' hnum
        by_cases h4 : 4096 < (txt l0 (k : Int)).length
        · have h4I : (4096 : Int) < ((txt l0 (k : Int)).length : Int) := by omega
          have HRES : Hid (res = ([], some (131, -1))) := Lib.hid (by rw [HTS.out, if_pos (by have := HL2.out; omega)])
          clear h4
          go_wp2_with fail
          go_region_with (go_at_call 29; refine (TC.out _ ((Below.refl _ _).drew)).mono ?_; rintro e w3 ⟨rfl, hB3⟩; have T3 := Lib.hid (HT.out.next (((Below.refl _ _).drew).trans hB3)); obtain ⟨⟨ov, hov⟩, hfz⟩ := T3.out.room k hlt)
          all_goals
            go_wp2_with fail
            go_ret3
            rw [HRES.out]
            exact ⟨rfl, T3.out.bel.setCell (p := ⟨g, k, none⟩) (by have := T3.out.past; simp; omega) _⟩
        · have h4I : ¬ ((4096 : Int) < ((txt l0 (k : Int)).length : Int)) := by omega
          have h4' : (txt l0 (k : Int)).length ≤ 4096 := by omega
          clear h4
          go_wp2_with fail
          go_region_with (go_at_call 29; refine (TC.out _ ((Below.refl _ _).drew)).mono ?_; rintro e w3 ⟨rfl, hB3⟩; have T3 := Lib.hid (HT.out.next (((Below.refl _ _).drew).trans hB3)); obtain ⟨⟨ov, hov⟩, hfz⟩ := T3.out.room k hlt)
          all_goals
            go_wp2_with fail
            go_roundw
            case rel => exact ⟨k + 1, by omega, by go_num, Lib.hid (T3.out.store hlt h4')⟩
            case measure => simp [intOf]; omega
      · have hB : decide (k < l0.length) = false := by simp; omega
        obtain rfl : k = l0.length := by omega
        have hR : Hid (res = (txt l0 ((l0.length - 1 : Nat) : Int), none)) := Lib.hid (by
          obtain ⟨arr, _, _, h3⟩ := HT.out.row
          rw [HTS.out, if_neg (by have := (h3 (l0.length - 1) (by omega)).2; omega)])
        have hcl : wr.cell? ⟨g, l0.length - 1, none⟩ = some (.string ⟨(txt l0 ((l0.length - 1 : Nat) : Int)).toArray⟩) := by
          obtain ⟨arr, h1, _, h3⟩ := HT.out.row
          rw [Lib.cell_of_heap h1]
          exact (h3 (l0.length - 1) (by omega)).1
        go_wp2_with fail
        go_ret3
        rw [hR.out]
        exact ⟨rfl, HT.out.bel⟩
end Go.Proofs.YteeojceloljcbaaDoor.H
