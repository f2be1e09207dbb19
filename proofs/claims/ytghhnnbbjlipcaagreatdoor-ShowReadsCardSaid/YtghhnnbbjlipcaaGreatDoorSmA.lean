/-
  The walk of the document's SameTree over any two trees.
-/
import Derived.Test.YtghhnnbbjlipcaaGreatDoorTopIn
set_option linter.unusedVariables false
set_option linter.unusedSimpArgs false
namespace Go.Proofs.YtghhnnbbjlipcaaGreatDoor.X
open Go.RowKit Go.Proofs.YtghhnnbbjlipcaaGreatDoorW.PrintWords Go.Proofs.YtghhnnbbjlipcaaGreatDoorW.PrintLast
theorem toList_ne {p q : ByteArray} (h : ¬ p = q) : ¬ p.toList = q.toList := fun e => h (by
  rw [ByteArray.toList_eq, ByteArray.toList_eq] at e
  exact ByteArray.ext (Array.toList_inj.1 e))
theorem pt_ext {p q : P.Pt} (h0 : p.f0 = q.f0) (h1 : p.f1 = q.f1) (h2 : p.f2 = q.f2) (h3 : p.f3 = q.f3) : p = q := by
  cases p; cases q; simp_all
/-- What SameTree answers. -/
def SameAns (w : World) (l1 l2 : List P.Pt) (e : Ending) (w' : World) : Prop := ∃ r : Bool, e = .returned (.bool r) ∧ (r = true ↔ l1 = l2) ∧ Below w.heap.size w w'
set_option maxHeartbeats 16000000 in
set_option maxRecDepth 100000 in
theorem sameG_len {l1 l2 : List P.Pt} (hne : ¬ l1.length = l2.length) {A B : Option Addr} {cA cB : Nat} {w : World} :
    Calls Tryz.prog 25 #[.agg #[.slice A l1.length cA], .agg #[.slice B l2.length cB]] w (SameAns w l1 l2) := by
  have h1 : ¬ ((l1.length : Int) = (l2.length : Int)) := by omega
  have h2 : ((l1.length : Int) == (l2.length : Int)) = false := by rw [beq_eq_false_iff_ne]; exact h1
  go_enter Tryz.func25, Tryz.ntmps25
  go_wp2
  go_ret
  exact ⟨false, rfl, by simp; rintro rfl; exact hne rfl, ((Below.refl _ w).alloc (Nat.le_refl _) _).alloc (by simp) _⟩
set_option maxHeartbeats 16000000 in
set_option maxRecDepth 100000 in
theorem sameG_eq {l1 l2 : List P.Pt} (he : l2.length = l1.length) (hl : l1.length ≤ 140737488355328) {A B : Option Addr} {cA cB : Nat} {w : World} (hA : Kd.C P.k45 w A l1.length l1) (hB : Kd.C P.k45 w B l2.length l2) (hk : ∀ p ∈ l1, p.f3.length ≤ 140737488355328) (hk2 : ∀ p ∈ l2, p.f3.length ≤ 140737488355328) :
    Calls Tryz.prog 25 #[.agg #[.slice A l1.length cA], .agg #[.slice B l1.length cB]] w (SameAns w l1 l2) := by
  rw [he] at hB
  have TR := Lib.hid hA
  have TR2 := Lib.hid hB
  have HK := Lib.hid hk
  have HK2 := Lib.hid hk2
  have HE := Lib.hid he
  clear hA hB hk hk2 he
  go_enter Tryz.func25, Tryz.ntmps25
  go_wp2
  go_loopw [5] (fun v wr => ∃ k : Nat, k ≤ l1.length ∧ v = .int .i64 k ∧ Hid (∀ i, i < k → l1[i]? = l2[i]?) ∧ Hid (Below (w.heap.size + 2) ((w.alloc (.cells #[.slice A l1.length cA] 25)).alloc (.cells #[.slice B l1.length cB] 25)) wr)) (fun v _ => l1.length - (intOf v).toNat)
  case atStart => exact ⟨0, by omega, rfl, Lib.hid (fun i hi => absurd hi (Nat.not_lt_zero _)), Lib.hid (Below.refl _ _)⟩
  case round =>
    obtain ⟨k, hk, rfl, HX, HB⟩ := hrel
    have hwr : w.heap.size + 1 < wr.heap.size := by have := HB.out.size; simp at this; omega
    have ct : wr.cell? ⟨w.heap.size, 0, none⟩ = some (.slice A l1.length cA) := cell_keep HB.out (by omega) ((Lib.cell_of_heap ((Below.heap_alloc _ _ _ (by simp)).trans (Go.heap_alloc_new w _)) 0).trans rfl)
    have ct2 : wr.cell? ⟨w.heap.size + 1, 0, none⟩ = some (.slice B l1.length cB) := cell_keep HB.out (by omega) ((Lib.cell_of_heap (by have h := Go.heap_alloc_new (w.alloc (.cells #[.slice A l1.length cA] 25)) (.cells #[.slice B l1.length cB] 25); rw [World.size_alloc] at h; exact h) 0).trans rfl)
    have hBw : Below w.heap.size w wr := (((Below.refl _ w).alloc (Nat.le_refl _) _).alloc (by simp) _).trans (HB.out.mono (by omega))
    have hw0 : w.heap.size < wr.heap.size := by omega
    by_cases hlt : k < l1.length
    · have hI : (k : Int) < (l1.length : Int) := by omega
      have hlt2 : k < l2.length := by rw [HE.out]; exact hlt
      obtain ⟨g, a, c, hg1, d0, d1, d2, d3, hl3, hIn⟩ := P.at_T45 (Kd.C_below TR.out hBw) (k : Int) (by omega) (by omega)
      obtain ⟨g2, a2, c2, hg3, e0, e1, e2, e3, hl4, hIn2⟩ := P.at_T45 (Kd.C_below TR2.out hBw) (k : Int) (by omega) (by omega)
      subst hg1 hg3
      have hrd : P.rd_T45 l1 (k : Int) = l1[k] := by simp [P.rd_T45, List.getD_eq_getElem?_getD, List.getElem?_eq_getElem hlt]
      have hrd2 : P.rd_T45 l2 (k : Int) = l2[k] := by simp [P.rd_T45, List.getD_eq_getElem?_getD, List.getElem?_eq_getElem hlt2]
      rw [hrd] at d0 d1 d2 d3 hl3 hIn
      rw [hrd2] at e0 e1 e2 e3 hl4 hIn2
      rw [Int.toNat_natCast] at d0 d1 d2 d3 e0 e1 e2 e3
      have hkl := HK.out _ (List.getElem_mem hlt)
      have hkl2 := HK2.out _ (List.getElem_mem hlt2)
      have NE : Hid (l1 = l2 → l1[k] = l2[k]) := Lib.hid (fun e => by subst e; rfl)
      have NX : Hid (l1[k] = l2[k] → ∀ i, i < k + 1 → l1[i]? = l2[i]?) := Lib.hid (fun e i hi => by
        by_cases h : i < k
        · exact HX.out i h
        · obtain rfl : i = k := by omega
          rw [List.getElem?_eq_getElem hlt, List.getElem?_eq_getElem hlt2, e])
      have KI := Lib.hid hIn
      have KI2 := Lib.hid hIn2
      have HBw := Lib.hid hBw
      clear hIn hIn2 hBw hrd hrd2 hl3 hl4
      have hbg : (g.add (k * 4)).block < wr.heap.size := World.block_lt_of_cell? _ _ d0
      have hbg2 : (g2.add (k * 4)).block < wr.heap.size := World.block_lt_of_cell? _ _ e0
      generalize l1[k] = p at d0 d1 d2 d3 KI hkl NE NX
      generalize l2[k] = q at e0 e1 e2 e3 KI2 hkl2 NE NX
      by_cases HD : p.f0 = q.f0 ∧ p.f1 = q.f1 ∧ p.f2 = q.f2 ∧ p.f3.length = q.f3.length
      · obtain ⟨h0, h1, h2, h3⟩ := HD
        have NY : Hid (p.f3 = q.f3 → p = q) := Lib.hid (fun e => pt_ext h0 h1 h2 e)
        have NZ : Hid (l1 = l2 → p.f3 = q.f3) := Lib.hid (fun e => congrArg (·.f3) (NE.out e))
        rw [← h0] at e0
        rw [← h1] at e1
        rw [← h2] at e2
        rw [← h3] at e3 hkl2
        have HL3 := Lib.hid h3
        obtain ⟨m, hm⟩ : ∃ m, m = p.f3.length := ⟨_, rfl⟩
        have HM := Lib.hid hm
        rw [← hm] at d3 e3 hkl hkl2
        clear hm h0 h1 h2 h3
        go_wp2
        go_region
        · as_aux_lemma =>
          go_wp2
          go_loopw [8] (fun v wq => ∃ j : Nat, j ≤ m ∧ v = .int .i64 j ∧ Hid (∀ i, i < j → p.f3[i]? = q.f3[i]?) ∧ ∃ nd, ((wr.alloc (.cells #[.int .i64 p.f0, .string p.f1, .int .i64 p.f2, .slice a m c] 45)).alloc (.cells #[.int .i64 p.f0, .string p.f1, .int .i64 p.f2, .slice a2 m c2] 45)).drewN nd = wq) (fun v _ => m - (intOf v).toNat)
          case atStart => exact ⟨0, by omega, rfl, Lib.hid (fun i hi => absurd hi (Nat.not_lt_zero _)), 1, rfl⟩
          case round =>
            obtain ⟨j, hj, rfl, HJ, nd, rfl⟩ := hrel
            by_cases hlj : j < m
            · have hI2 : (j : Int) < (m : Int) := by omega
              have hj1 : j < p.f3.length := by have := HM.out; omega
              have hj2 : j < q.f3.length := by have := HM.out; have := HL3.out; omega
              obtain ⟨gk, hk1, hk3⟩ := int_at KI.out (j := j) hj1
              obtain ⟨gk2, hk4, hk6⟩ := int_at KI2.out (j := j) hj2
              subst hk1 hk4
              have hbk : (gk.add j).block < wr.heap.size := World.block_lt_of_cell? _ _ hk3
              have hbk2 : (gk2.add j).block < wr.heap.size := World.block_lt_of_cell? _ _ hk6
              have NJ : Hid (p.f3[j] = q.f3[j] → ∀ i, i < j + 1 → p.f3[i]? = q.f3[i]?) := Lib.hid (fun e i hi => by
                by_cases h : i < j
                · exact HJ.out i h
                · obtain rfl : i = j := by omega
                  rw [List.getElem?_eq_getElem hj1, List.getElem?_eq_getElem hj2, e])
              have NK : Hid (p.f3 = q.f3 → p.f3[j] = q.f3[j]) := Lib.hid (fun e => by
                have h := congrArg (fun l => l[j]?) e
                simp only [List.getElem?_eq_getElem hj1, List.getElem?_eq_getElem hj2] at h
                exact Option.some.inj h)
              generalize p.f3[j] = x at hk3 NJ NK
              generalize q.f3[j] = y at hk6 NJ NK
              clear hj1 hj2
              by_cases hxy : x = y
              · subst hxy
                go_wp2
                go_quiet (fail)
                go_wp2
                go_roundw
                case rel => exact ⟨j + 1, by omega, by go_num, Lib.hid (by first | exact NJ.out rfl | exact NJ.out trivial), _, rfl⟩
                case measure => simp [intOf]; omega
              · go_wp2
                go_quiet (fail)
                go_wp2
                go_ret
                exact ⟨false, rfl, by simp; intro e; exact hxy (NK.out (NZ.out e)), below_drewN (below_drewN ((HBw.out.alloc HBw.out.size _).alloc (by have := HBw.out.size; simp; omega) _) _) _⟩
            · have hI2 : ¬ (j : Int) < (m : Int) := by omega
              have hX : p.f3 = q.f3 := List.ext_getElem? (fun i => by
                by_cases h : i < j
                · exact HJ.out i h
                · have h1 := HM.out
                  have h2 := HL3.out
                  rw [List.getElem?_eq_none (by omega), List.getElem?_eq_none (by omega)])
              go_wp2
              go_roundw
              case rel => exact ⟨k + 1, by omega, by go_num, Lib.hid (NX.out (NY.out hX)), Lib.hid (below_drewN ((HB.out.alloc (by omega) _).alloc (by simp; omega) _) _)⟩
              case measure => simp [intOf]; omega
        · as_aux_lemma =>
          go_wp2
          go_loopw [8] (fun v wq => ∃ j : Nat, j ≤ m ∧ v = .int .i64 j ∧ Hid (∀ i, i < j → p.f3[i]? = q.f3[i]?) ∧ ∃ nd, ((wr.alloc (.cells #[.int .i64 p.f0, .string p.f1, .int .i64 p.f2, .slice a2 m c2] 45)).alloc (.cells #[.int .i64 p.f0, .string p.f1, .int .i64 p.f2, .slice a m c] 45)).drewN nd = wq) (fun v _ => m - (intOf v).toNat)
          case atStart => exact ⟨0, by omega, rfl, Lib.hid (fun i hi => absurd hi (Nat.not_lt_zero _)), 1, rfl⟩
          case round =>
            obtain ⟨j, hj, rfl, HJ, nd, rfl⟩ := hrel
            by_cases hlj : j < m
            · have hI2 : (j : Int) < (m : Int) := by omega
              have hj1 : j < p.f3.length := by have := HM.out; omega
              have hj2 : j < q.f3.length := by have := HM.out; have := HL3.out; omega
              obtain ⟨gk, hk1, hk3⟩ := int_at KI.out (j := j) hj1
              obtain ⟨gk2, hk4, hk6⟩ := int_at KI2.out (j := j) hj2
              subst hk1 hk4
              have hbk : (gk.add j).block < wr.heap.size := World.block_lt_of_cell? _ _ hk3
              have hbk2 : (gk2.add j).block < wr.heap.size := World.block_lt_of_cell? _ _ hk6
              have NJ : Hid (p.f3[j] = q.f3[j] → ∀ i, i < j + 1 → p.f3[i]? = q.f3[i]?) := Lib.hid (fun e i hi => by
                by_cases h : i < j
                · exact HJ.out i h
                · obtain rfl : i = j := by omega
                  rw [List.getElem?_eq_getElem hj1, List.getElem?_eq_getElem hj2, e])
              have NK : Hid (p.f3 = q.f3 → p.f3[j] = q.f3[j]) := Lib.hid (fun e => by
                have h := congrArg (fun l => l[j]?) e
                simp only [List.getElem?_eq_getElem hj1, List.getElem?_eq_getElem hj2] at h
                exact Option.some.inj h)
              generalize p.f3[j] = x at hk3 NJ NK
              generalize q.f3[j] = y at hk6 NJ NK
              clear hj1 hj2
              by_cases hxy : x = y
              · subst hxy
                go_wp2
                go_quiet (fail)
                go_wp2
                go_roundw
                case rel => exact ⟨j + 1, by omega, by go_num, Lib.hid (by first | exact NJ.out rfl | exact NJ.out trivial), _, rfl⟩
                case measure => simp [intOf]; omega
              · go_wp2
                go_quiet (fail)
                go_wp2
                go_ret
                exact ⟨false, rfl, by simp; intro e; exact hxy (NK.out (NZ.out e)), below_drewN (below_drewN ((HBw.out.alloc HBw.out.size _).alloc (by have := HBw.out.size; simp; omega) _) _) _⟩
            · have hI2 : ¬ (j : Int) < (m : Int) := by omega
              have hX : p.f3 = q.f3 := List.ext_getElem? (fun i => by
                by_cases h : i < j
                · exact HJ.out i h
                · have h1 := HM.out
                  have h2 := HL3.out
                  rw [List.getElem?_eq_none (by omega), List.getElem?_eq_none (by omega)])
              go_wp2
              go_roundw
              case rel => exact ⟨k + 1, by omega, by go_num, Lib.hid (NX.out (NY.out hX)), Lib.hid (below_drewN ((HB.out.alloc (by omega) _).alloc (by simp; omega) _) _)⟩
              case measure => simp [intOf]; omega
      · go_wp2
        go_region
        · as_aux_lemma =>
          by_cases h0 : p.f0 = q.f0
          · by_cases h1 : p.f1 = q.f1
            · by_cases h2 : p.f2 = q.f2
              · have h3 : ¬ p.f3.length = q.f3.length := fun h3 => HD ⟨h0, h1, h2, h3⟩
                have g3 : ¬ ((p.f3.length : Int) = (q.f3.length : Int)) := by omega
                go_wp2
                go_ret
                exact ⟨false, rfl, by simp; intro e; exact h3 (by rw [NE.out e]), ((HBw.out.alloc HBw.out.size _).alloc (by have := HBw.out.size; simp; omega) _).drew⟩
              · go_wp2
                go_ret
                exact ⟨false, rfl, by simp; intro e; exact h2 (by rw [NE.out e]), ((HBw.out.alloc HBw.out.size _).alloc (by have := HBw.out.size; simp; omega) _).drew⟩
            · have h1' := toList_ne h1
              go_wp2
              go_ret
              exact ⟨false, rfl, by simp; intro e; exact h1 (by rw [NE.out e]), ((HBw.out.alloc HBw.out.size _).alloc (by have := HBw.out.size; simp; omega) _).drew⟩
          · go_wp2
            go_ret
            exact ⟨false, rfl, by simp; intro e; exact h0 (by rw [NE.out e]), ((HBw.out.alloc HBw.out.size _).alloc (by have := HBw.out.size; simp; omega) _).drew⟩
        · as_aux_lemma =>
          by_cases h0 : p.f0 = q.f0
          · by_cases h1 : p.f1 = q.f1
            · by_cases h2 : p.f2 = q.f2
              · have h3 : ¬ p.f3.length = q.f3.length := fun h3 => HD ⟨h0, h1, h2, h3⟩
                have g3 : ¬ ((p.f3.length : Int) = (q.f3.length : Int)) := by omega
                go_wp2
                go_ret
                exact ⟨false, rfl, by simp; intro e; exact h3 (by rw [NE.out e]), ((HBw.out.alloc HBw.out.size _).alloc (by have := HBw.out.size; simp; omega) _).drew⟩
              · go_wp2
                go_ret
                exact ⟨false, rfl, by simp; intro e; exact h2 (by rw [NE.out e]), ((HBw.out.alloc HBw.out.size _).alloc (by have := HBw.out.size; simp; omega) _).drew⟩
            · have h1' := toList_ne h1
              go_wp2
              go_ret
              exact ⟨false, rfl, by simp; intro e; exact h1 (by rw [NE.out e]), ((HBw.out.alloc HBw.out.size _).alloc (by have := HBw.out.size; simp; omega) _).drew⟩
          · go_wp2
            go_ret
            exact ⟨false, rfl, by simp; intro e; exact h0 (by rw [NE.out e]), ((HBw.out.alloc HBw.out.size _).alloc (by have := HBw.out.size; simp; omega) _).drew⟩
    · have hI : ¬ (k : Int) < (l1.length : Int) := by omega
      have hk' : k = l1.length := by omega
      have heq : l1 = l2 := by
        refine List.ext_getElem? (fun i => ?_)
        by_cases h : i < k
        · exact HX.out i h
        · rw [List.getElem?_eq_none (by omega), List.getElem?_eq_none (by have := HE.out; omega)]
      go_wp2
      go_ret
      exact ⟨true, rfl, by simp [heq], hBw⟩

end Go.Proofs.YtghhnnbbjlipcaaGreatDoor.X
