/-
  The document's text of a comparison: walked.
-/
import Derived.Test.YteeojceloljcbaaDoorTextI
set_option linter.unusedVariables false
set_option linter.unusedSimpArgs false
namespace Go.Proofs.YteeojceloljcbaaDoor.H
open Go.RowKit Go.Proofs.YteeojceloljcbaaDoorW.PrintWords Go.Proofs.YteeojceloljcbaaDoorW.PrintLast Go.Proofs.YteeojceloljcbaaDoor.P

variable {A : Option Addr} {c c3 g n : Nat} {l0 : List Pt} {f : Int → Bs} {A3 : Option Addr} {w : World}
set_option maxHeartbeats 4000000 in
set_option maxRecDepth 100000 in
theorem text6 (s : ByteArray) (m : Int) (ks : List Int) (h : TIn w A l0 f ⟨6, s, m, ks⟩ A3 g n) (hlen : (joinT l0 ⟨6, s, m, ks⟩ ([32] ++ cmpT m ++ [32]) f ks).length ≤ 1000000) :
    Calls Tryd.prog 29 #[.agg #[.slice A l0.length c], pval ⟨6, s, m, ks⟩ A3 c3, .slice (some ⟨g, 0, none⟩) n n] w fun e w' => e = .returned (.string ⟨(partT l0 ⟨6, s, m, ks⟩ f).toArray⟩) ∧ Below w.heap.size w w' := by
  have SC := Lib.hid (refSign_c m)
  have hcl : (cmpT m).length ≤ 2 := by unfold cmpT; (repeat' split) <;> simp
  have HL : Hid ((joinT l0 ⟨6, s, m, ks⟩ (ByteArray.mk #[32] ++ ⟨(cmpT m).toArray⟩ ++ ⟨#[32]⟩).data.toList f ks).length ≤ 2000000) := Lib.hid (by
    have e : (ByteArray.mk #[32] ++ ⟨(cmpT m).toArray⟩ ++ ⟨#[32]⟩).data.toList = [32] ++ cmpT m ++ [32] := by rw [ba_append, ba_append]
    rw [e]; omega)
  clear hlen
  have HI := Lib.hid h
  have QC := Lib.hid (refQuote_any s)
  have hq := quoteT_len s
  have hsz := h.text
  simp only at hsz
  have hq1 : (quoteT s).length ≤ 800002 := by omega
  have HS := Lib.hid (show s.size ≤ 2000000 by omega)
  have HW0 := Lib.hid (((Below.refl w.heap.size w).alloc (Nat.le_refl _) (.cells #[.slice A l0.length c] 24)).alloc (by simp) (.cells #[.int .i64 6, .string s, .int .i64 m, .slice A3 ks.length c3] 45))
  clear h hq hsz
  go_enter Tryd.func29, Tryd.ntmps29
  go_wp2_with fail
  refine (QC.out _ HS.out).mono ?_
  rintro e w2 ⟨rfl, hB⟩
  have HW2 := Lib.hid (HW0.out.trans (hB.mono (by simp; omega)))
  have T2 := Lib.hid (HI.out.below HW2.out)
  have t0 := (hB.cell (p := ⟨w.heap.size, 0, none⟩) (by simp; omega))
  have d0 := (hB.cell (p := ⟨w.heap.size + 1, 0, none⟩) (by simp))
  have d1 := (hB.cell (p := ⟨w.heap.size + 1, 1, none⟩) (by simp))
  have d2 := (hB.cell (p := ⟨w.heap.size + 1, 2, none⟩) (by simp))
  have d3 := (hB.cell (p := ⟨w.heap.size + 1, 3, none⟩) (by simp))
  simp at t0 d0 d1 d2 d3
  clear hB
  go_wp2_with fail
  go_region_with (first | (go_at_call 44; refine (SC.out _).mono ?_; rintro e w4 ⟨rfl, nd, rfl⟩) | (go_at_call 43; refine ((T2.out.below (pw_below_drewN (Below.refl _ _) _)).joined _ _ _ HL.out).mono ?_; rintro e w3 ⟨rfl, hB3⟩))
  all_goals
    go_wp2_with fail
    go_ret
    refine ⟨str_val (by show (joinT l0 _ (ByteArray.mk #[32] ++ ⟨(cmpT m).toArray⟩ ++ ⟨#[32]⟩).data.toList f ks) = _; rw [ba_append, ba_append]; rfl), ?_⟩
    refine HW2.out.trans (Below.trans ?_ (hB3.mono HW2.out.size))
    repeat (first | exact Below.refl _ _ | apply pw_below_drewN | apply below_drew)

end Go.Proofs.YteeojceloljcbaaDoor.H
