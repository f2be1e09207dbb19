/-
  The document's text of a part: walked, kind by kind.
-/
import Derived.Test.YteeojceloljcbaaDoorTextI
set_option linter.unusedVariables false
set_option linter.unusedSimpArgs false
namespace Go.Proofs.YteeojceloljcbaaDoor.H
open Go.RowKit Go.Proofs.YteeojceloljcbaaDoorW.PrintWords Go.Proofs.YteeojceloljcbaaDoorW.PrintLast Go.Proofs.YteeojceloljcbaaDoor.P

variable {A : Option Addr} {c c3 g n : Nat} {l0 : List Pt} {f : Int → Bs} {A3 : Option Addr} {w : World}
set_option maxHeartbeats 4000000 in
set_option maxRecDepth 100000 in
theorem text3 (s : ByteArray) (m : Int) (ks : List Int) (h : TIn w A l0 f ⟨3, s, m, ks⟩ A3 g n) (hlen : (joinT l0 ⟨3, s, m, ks⟩ [] f ks).length ≤ 1000000) :
    Calls Tryd.prog 29 #[.agg #[.slice A l0.length c], pval ⟨3, s, m, ks⟩ A3 c3, .slice (some ⟨g, 0, none⟩) n n] w fun e w' => e = .returned (.string ⟨(partT l0 ⟨3, s, m, ks⟩ f).toArray⟩) ∧ Below w.heap.size w w' := by
  have HL := Lib.hid hlen
  have HI := Lib.hid h
  have QC := Lib.hid (refQuote_any s)
  have hq := quoteT_len s
  have hsz := h.text
  simp only at hsz
  have hq1 : (quoteT s).length ≤ 800002 := by omega
  have HS := Lib.hid (show s.size ≤ 2000000 by omega)
  have HW0 := Lib.hid (((Below.refl w.heap.size w).alloc (Nat.le_refl _) (.cells #[.slice A l0.length c] 24)).alloc (by simp) (.cells #[.int .i64 3, .string s, .int .i64 m, .slice A3 ks.length c3] 45))
  clear h hq hsz
  go_enter Tryd.func29, Tryd.ntmps29
  go_wp2_with fail
  refine (QC.out _ HS.out).mono ?_
  rintro e w2 ⟨rfl, hB⟩
  have HW2 := Lib.hid (HW0.out.trans (hB.mono (by simp; omega)))
  have T2 := Lib.hid (HI.out.below HW2.out)
  have t0 := (hB.cell (p := ⟨w.heap.size, 0, none⟩) (by simp; omega))
  have d0 := (hB.cell (p := ⟨w.heap.size + 1, 0, none⟩) (by simp))
  have d1 := (hB.cell (p := ⟨w.heap.size + 1, 1, none⟩) (by simp))
  have d2 := (hB.cell (p := ⟨w.heap.size + 1, 2, none⟩) (by simp))
  have d3 := (hB.cell (p := ⟨w.heap.size + 1, 3, none⟩) (by simp))
  simp at t0 d0 d1 d2 d3
  clear hB
  go_wp2_with fail
  refine (T2.out.joined _ _ ⟨#[]⟩ (by have := HL.out; show (joinT l0 _ [] f ks).length ≤ _; omega)).mono ?_
  rintro e w3 ⟨rfl, hB3⟩
  go_wp2
  go_ret
  exact ⟨str_val (by simp [partT, ba_append]), HW2.out.trans (hB3.mono HW2.out.size)⟩

set_option maxHeartbeats 4000000 in
set_option maxRecDepth 100000 in
theorem text4 (s : ByteArray) (m : Int) (ks : List Int) (h : TIn w A l0 f ⟨4, s, m, ks⟩ A3 g n) (hlen : (joinT l0 ⟨4, s, m, ks⟩ [32, 38, 38, 32] f ks).length ≤ 1000000) :
    Calls Tryd.prog 29 #[.agg #[.slice A l0.length c], pval ⟨4, s, m, ks⟩ A3 c3, .slice (some ⟨g, 0, none⟩) n n] w fun e w' => e = .returned (.string ⟨(partT l0 ⟨4, s, m, ks⟩ f).toArray⟩) ∧ Below w.heap.size w w' := by
  have HL := Lib.hid hlen
  have HI := Lib.hid h
  have QC := Lib.hid (refQuote_any s)
  have hq := quoteT_len s
  have hsz := h.text
  simp only at hsz
  have hq1 : (quoteT s).length ≤ 800002 := by omega
  have HS := Lib.hid (show s.size ≤ 2000000 by omega)
  have HW0 := Lib.hid (((Below.refl w.heap.size w).alloc (Nat.le_refl _) (.cells #[.slice A l0.length c] 24)).alloc (by simp) (.cells #[.int .i64 4, .string s, .int .i64 m, .slice A3 ks.length c3] 45))
  clear h hq hsz
  go_enter Tryd.func29, Tryd.ntmps29
  go_wp2_with fail
  refine (QC.out _ HS.out).mono ?_
  rintro e w2 ⟨rfl, hB⟩
  have HW2 := Lib.hid (HW0.out.trans (hB.mono (by simp; omega)))
  have T2 := Lib.hid (HI.out.below HW2.out)
  have t0 := (hB.cell (p := ⟨w.heap.size, 0, none⟩) (by simp; omega))
  have d0 := (hB.cell (p := ⟨w.heap.size + 1, 0, none⟩) (by simp))
  have d1 := (hB.cell (p := ⟨w.heap.size + 1, 1, none⟩) (by simp))
  have d2 := (hB.cell (p := ⟨w.heap.size + 1, 2, none⟩) (by simp))
  have d3 := (hB.cell (p := ⟨w.heap.size + 1, 3, none⟩) (by simp))
  simp at t0 d0 d1 d2 d3
  clear hB
  go_wp2_with fail
  refine (T2.out.joined _ _ ⟨#[32, 38, 38, 32]⟩ (by have := HL.out; show (joinT l0 _ [32, 38, 38, 32] f ks).length ≤ _; omega)).mono ?_
  rintro e w3 ⟨rfl, hB3⟩
  go_wp2
  go_ret
  exact ⟨str_val (by simp [partT]), HW2.out.trans (hB3.mono HW2.out.size)⟩

set_option maxHeartbeats 4000000 in
set_option maxRecDepth 100000 in
theorem text5 (s : ByteArray) (m : Int) (ks : List Int) (h : TIn w A l0 f ⟨5, s, m, ks⟩ A3 g n) (hlen : (joinT l0 ⟨5, s, m, ks⟩ [32, 124, 124, 32] f ks).length ≤ 1000000) :
    Calls Tryd.prog 29 #[.agg #[.slice A l0.length c], pval ⟨5, s, m, ks⟩ A3 c3, .slice (some ⟨g, 0, none⟩) n n] w fun e w' => e = .returned (.string ⟨(partT l0 ⟨5, s, m, ks⟩ f).toArray⟩) ∧ Below w.heap.size w w' := by
  have HL := Lib.hid hlen
  have HI := Lib.hid h
  have QC := Lib.hid (refQuote_any s)
  have hq := quoteT_len s
  have hsz := h.text
  simp only at hsz
  have hq1 : (quoteT s).length ≤ 800002 := by omega
  have HS := Lib.hid (show s.size ≤ 2000000 by omega)
  have HW0 := Lib.hid (((Below.refl w.heap.size w).alloc (Nat.le_refl _) (.cells #[.slice A l0.length c] 24)).alloc (by simp) (.cells #[.int .i64 5, .string s, .int .i64 m, .slice A3 ks.length c3] 45))
  clear h hq hsz
  go_enter Tryd.func29, Tryd.ntmps29
  go_wp2_with fail
  refine (QC.out _ HS.out).mono ?_
  rintro e w2 ⟨rfl, hB⟩
  have HW2 := Lib.hid (HW0.out.trans (hB.mono (by simp; omega)))
  have T2 := Lib.hid (HI.out.below HW2.out)
  have t0 := (hB.cell (p := ⟨w.heap.size, 0, none⟩) (by simp; omega))
  have d0 := (hB.cell (p := ⟨w.heap.size + 1, 0, none⟩) (by simp))
  have d1 := (hB.cell (p := ⟨w.heap.size + 1, 1, none⟩) (by simp))
  have d2 := (hB.cell (p := ⟨w.heap.size + 1, 2, none⟩) (by simp))
  have d3 := (hB.cell (p := ⟨w.heap.size + 1, 3, none⟩) (by simp))
  simp at t0 d0 d1 d2 d3
  clear hB
  go_wp2_with fail
  refine (T2.out.joined _ _ ⟨#[32, 124, 124, 32]⟩ (by have := HL.out; show (joinT l0 _ [32, 124, 124, 32] f ks).length ≤ _; omega)).mono ?_
  rintro e w3 ⟨rfl, hB3⟩
  go_wp2
  go_ret
  exact ⟨str_val (by simp [partT]), HW2.out.trans (hB3.mono HW2.out.size)⟩

set_option maxHeartbeats 4000000 in
set_option maxRecDepth 100000 in
theorem text70 (s : ByteArray) (ks : List Int) (h : TIn w A l0 f ⟨7, s, 0, ks⟩ A3 g n) (hlen : (joinT l0 ⟨7, s, 0, ks⟩ [32, 105, 110, 32] f ks).length ≤ 1000000) :
    Calls Tryd.prog 29 #[.agg #[.slice A l0.length c], pval ⟨7, s, 0, ks⟩ A3 c3, .slice (some ⟨g, 0, none⟩) n n] w fun e w' => e = .returned (.string ⟨(partT l0 ⟨7, s, 0, ks⟩ f).toArray⟩) ∧ Below w.heap.size w w' := by
  have HL := Lib.hid hlen
  have HI := Lib.hid h
  have QC := Lib.hid (refQuote_any s)
  have hq := quoteT_len s
  have hsz := h.text
  simp only at hsz
  have hq1 : (quoteT s).length ≤ 800002 := by omega
  have HS := Lib.hid (show s.size ≤ 2000000 by omega)
  have HW0 := Lib.hid (((Below.refl w.heap.size w).alloc (Nat.le_refl _) (.cells #[.slice A l0.length c] 24)).alloc (by simp) (.cells #[.int .i64 7, .string s, .int .i64 0, .slice A3 ks.length c3] 45))
  clear h hq hsz
  go_enter Tryd.func29, Tryd.ntmps29
  go_wp2_with fail
  refine (QC.out _ HS.out).mono ?_
  rintro e w2 ⟨rfl, hB⟩
  have HW2 := Lib.hid (HW0.out.trans (hB.mono (by simp; omega)))
  have T2 := Lib.hid (HI.out.below HW2.out)
  have t0 := (hB.cell (p := ⟨w.heap.size, 0, none⟩) (by simp; omega))
  have d0 := (hB.cell (p := ⟨w.heap.size + 1, 0, none⟩) (by simp))
  have d1 := (hB.cell (p := ⟨w.heap.size + 1, 1, none⟩) (by simp))
  have d2 := (hB.cell (p := ⟨w.heap.size + 1, 2, none⟩) (by simp))
  have d3 := (hB.cell (p := ⟨w.heap.size + 1, 3, none⟩) (by simp))
  simp at t0 d0 d1 d2 d3
  clear hB
  go_wp2_with fail
  refine (T2.out.joined _ _ ⟨#[32, 105, 110, 32]⟩ (by have := HL.out; show (joinT l0 _ [32, 105, 110, 32] f ks).length ≤ _; omega)).mono ?_
  rintro e w3 ⟨rfl, hB3⟩
  go_wp2
  go_ret
  exact ⟨str_val (by simp [partT]), HW2.out.trans (hB3.mono HW2.out.size)⟩

set_option maxHeartbeats 4000000 in
set_option maxRecDepth 100000 in
theorem text71 (s : ByteArray) (ks : List Int) (h : TIn w A l0 f ⟨7, s, 1, ks⟩ A3 g n) (hlen : (joinT l0 ⟨7, s, 1, ks⟩ [32, 110, 111, 116, 105, 110, 32] f ks).length ≤ 1000000) :
    Calls Tryd.prog 29 #[.agg #[.slice A l0.length c], pval ⟨7, s, 1, ks⟩ A3 c3, .slice (some ⟨g, 0, none⟩) n n] w fun e w' => e = .returned (.string ⟨(partT l0 ⟨7, s, 1, ks⟩ f).toArray⟩) ∧ Below w.heap.size w w' := by
  have HL := Lib.hid hlen
  have HI := Lib.hid h
  have QC := Lib.hid (refQuote_any s)
  have hq := quoteT_len s
  have hsz := h.text
  simp only at hsz
  have hq1 : (quoteT s).length ≤ 800002 := by omega
  have HS := Lib.hid (show s.size ≤ 2000000 by omega)
  have HW0 := Lib.hid (((Below.refl w.heap.size w).alloc (Nat.le_refl _) (.cells #[.slice A l0.length c] 24)).alloc (by simp) (.cells #[.int .i64 7, .string s, .int .i64 1, .slice A3 ks.length c3] 45))
  clear h hq hsz
  go_enter Tryd.func29, Tryd.ntmps29
  go_wp2_with fail
  refine (QC.out _ HS.out).mono ?_
  rintro e w2 ⟨rfl, hB⟩
  have HW2 := Lib.hid (HW0.out.trans (hB.mono (by simp; omega)))
  have T2 := Lib.hid (HI.out.below HW2.out)
  have t0 := (hB.cell (p := ⟨w.heap.size, 0, none⟩) (by simp; omega))
  have d0 := (hB.cell (p := ⟨w.heap.size + 1, 0, none⟩) (by simp))
  have d1 := (hB.cell (p := ⟨w.heap.size + 1, 1, none⟩) (by simp))
  have d2 := (hB.cell (p := ⟨w.heap.size + 1, 2, none⟩) (by simp))
  have d3 := (hB.cell (p := ⟨w.heap.size + 1, 3, none⟩) (by simp))
  simp at t0 d0 d1 d2 d3
  clear hB
  go_wp2_with fail
  refine (T2.out.joined _ _ ⟨#[32, 110, 111, 116, 105, 110, 32]⟩ (by have := HL.out; show (joinT l0 _ [32, 110, 111, 116, 105, 110, 32] f ks).length ≤ _; omega)).mono ?_
  rintro e w3 ⟨rfl, hB3⟩
  go_wp2
  go_ret
  exact ⟨str_val (by simp [partT]), HW2.out.trans (hB3.mono HW2.out.size)⟩

set_option maxHeartbeats 4000000 in
set_option maxRecDepth 100000 in
theorem text13 (s : ByteArray) (m : Int) (ks : List Int) (h : TIn w A l0 f ⟨13, s, m, ks⟩ A3 g n) (hlen : (joinT l0 ⟨13, s, m, ks⟩ [44, 32] f ks).length ≤ 1000000) :
    Calls Tryd.prog 29 #[.agg #[.slice A l0.length c], pval ⟨13, s, m, ks⟩ A3 c3, .slice (some ⟨g, 0, none⟩) n n] w fun e w' => e = .returned (.string ⟨(partT l0 ⟨13, s, m, ks⟩ f).toArray⟩) ∧ Below w.heap.size w w' := by
  have HL := Lib.hid hlen
  have HI := Lib.hid h
  have QC := Lib.hid (refQuote_any s)
  have hq := quoteT_len s
  have hsz := h.text
  simp only at hsz
  have hq1 : (quoteT s).length ≤ 800002 := by omega
  have HS := Lib.hid (show s.size ≤ 2000000 by omega)
  have HW0 := Lib.hid (((Below.refl w.heap.size w).alloc (Nat.le_refl _) (.cells #[.slice A l0.length c] 24)).alloc (by simp) (.cells #[.int .i64 13, .string s, .int .i64 m, .slice A3 ks.length c3] 45))
  clear h hq hsz
  go_enter Tryd.func29, Tryd.ntmps29
  go_wp2_with fail
  refine (QC.out _ HS.out).mono ?_
  rintro e w2 ⟨rfl, hB⟩
  have HW2 := Lib.hid (HW0.out.trans (hB.mono (by simp; omega)))
  have T2 := Lib.hid (HI.out.below HW2.out)
  have t0 := (hB.cell (p := ⟨w.heap.size, 0, none⟩) (by simp; omega))
  have d0 := (hB.cell (p := ⟨w.heap.size + 1, 0, none⟩) (by simp))
  have d1 := (hB.cell (p := ⟨w.heap.size + 1, 1, none⟩) (by simp))
  have d2 := (hB.cell (p := ⟨w.heap.size + 1, 2, none⟩) (by simp))
  have d3 := (hB.cell (p := ⟨w.heap.size + 1, 3, none⟩) (by simp))
  simp at t0 d0 d1 d2 d3
  clear hB
  go_wp2_with fail
  refine (T2.out.joined _ _ ⟨#[44, 32]⟩ (by have := HL.out; show (joinT l0 _ [44, 32] f ks).length ≤ _; omega)).mono ?_
  rintro e w3 ⟨rfl, hB3⟩
  go_wp2
  go_ret
  exact ⟨str_val (by simp [partT, termT, ba_append]), HW2.out.trans (hB3.mono HW2.out.size)⟩

set_option maxHeartbeats 4000000 in
set_option maxRecDepth 100000 in
theorem text8 (s : ByteArray) (m x : Int) (h : TIn w A l0 f ⟨8, s, m, [x]⟩ A3 g n) (hlen : (f x).length ≤ 1000000) :
    Calls Tryd.prog 29 #[.agg #[.slice A l0.length c], pval ⟨8, s, m, [x]⟩ A3 c3, .slice (some ⟨g, 0, none⟩) n n] w fun e w' => e = .returned (.string ⟨(partT l0 ⟨8, s, m, [x]⟩ f).toArray⟩) ∧ Below w.heap.size w w' := by
  have HI := Lib.hid h
  have QC := Lib.hid (refQuote_any s)
  have hq := quoteT_len s
  have hsz := h.text
  simp only at hsz
  have hq1 : (quoteT s).length ≤ 800002 := by omega
  have HS := Lib.hid (show s.size ≤ 2000000 by omega)
  have HW0 := Lib.hid (((Below.refl w.heap.size w).alloc (Nat.le_refl _) (.cells #[.slice A l0.length c] 24)).alloc (by simp) (.cells #[.int .i64 8, .string s, .int .i64 m, .slice A3 1 c3] 45))
  clear h hq hsz
  go_enter Tryd.func29, Tryd.ntmps29
  go_wp2_with fail
  refine (QC.out _ HS.out).mono ?_
  rintro e w2 ⟨rfl, hB⟩
  have HW2 := Lib.hid (HW0.out.trans (hB.mono (by simp; omega)))
  have T2 := Lib.hid (HI.out.below HW2.out)
  have t0 := (hB.cell (p := ⟨w.heap.size, 0, none⟩) (by simp; omega))
  have d0 := (hB.cell (p := ⟨w.heap.size + 1, 0, none⟩) (by simp))
  have d1 := (hB.cell (p := ⟨w.heap.size + 1, 1, none⟩) (by simp))
  have d2 := (hB.cell (p := ⟨w.heap.size + 1, 2, none⟩) (by simp))
  have d3 := (hB.cell (p := ⟨w.heap.size + 1, 3, none⟩) (by simp))
  simp at t0 d0 d1 d2 d3
  clear hB
  obtain ⟨ad, rfl, a0, a1, a2, a3, a4⟩ := T2.out.kid0
  go_wp2
  go_ret
  exact ⟨str_val (by simp [partT, selT, joinT, oneT, brackB, ba_append]), HW2.out⟩

set_option maxHeartbeats 4000000 in
set_option maxRecDepth 100000 in
theorem text9 (s : ByteArray) (m x : Int) (h : TIn w A l0 f ⟨9, s, m, [x]⟩ A3 g n) (hlen : (f x).length ≤ 1000000) :
    Calls Tryd.prog 29 #[.agg #[.slice A l0.length c], pval ⟨9, s, m, [x]⟩ A3 c3, .slice (some ⟨g, 0, none⟩) n n] w fun e w' => e = .returned (.string ⟨(partT l0 ⟨9, s, m, [x]⟩ f).toArray⟩) ∧ Below w.heap.size w w' := by
  have HI := Lib.hid h
  have QC := Lib.hid (refQuote_any s)
  have hq := quoteT_len s
  have hsz := h.text
  simp only at hsz
  have hq1 : (quoteT s).length ≤ 800002 := by omega
  have HS := Lib.hid (show s.size ≤ 2000000 by omega)
  have HW0 := Lib.hid (((Below.refl w.heap.size w).alloc (Nat.le_refl _) (.cells #[.slice A l0.length c] 24)).alloc (by simp) (.cells #[.int .i64 9, .string s, .int .i64 m, .slice A3 1 c3] 45))
  clear h hq hsz
  go_enter Tryd.func29, Tryd.ntmps29
  go_wp2_with fail
  refine (QC.out _ HS.out).mono ?_
  rintro e w2 ⟨rfl, hB⟩
  have HW2 := Lib.hid (HW0.out.trans (hB.mono (by simp; omega)))
  have T2 := Lib.hid (HI.out.below HW2.out)
  have t0 := (hB.cell (p := ⟨w.heap.size, 0, none⟩) (by simp; omega))
  have d0 := (hB.cell (p := ⟨w.heap.size + 1, 0, none⟩) (by simp))
  have d1 := (hB.cell (p := ⟨w.heap.size + 1, 1, none⟩) (by simp))
  have d2 := (hB.cell (p := ⟨w.heap.size + 1, 2, none⟩) (by simp))
  have d3 := (hB.cell (p := ⟨w.heap.size + 1, 3, none⟩) (by simp))
  simp at t0 d0 d1 d2 d3
  clear hB
  obtain ⟨ad, rfl, a0, a1, a2, a3, a4⟩ := T2.out.kid0
  go_wp2
  go_ret
  exact ⟨str_val (by simp [partT, selT, joinT, oneT, brackB, ba_append]), HW2.out⟩

set_option maxHeartbeats 4000000 in
set_option maxRecDepth 100000 in
theorem text20 (s : ByteArray) (m x : Int) (h : TIn w A l0 f ⟨20, s, m, [x]⟩ A3 g n) (hlen : (f x).length ≤ 1000000) :
    Calls Tryd.prog 29 #[.agg #[.slice A l0.length c], pval ⟨20, s, m, [x]⟩ A3 c3, .slice (some ⟨g, 0, none⟩) n n] w fun e w' => e = .returned (.string ⟨(partT l0 ⟨20, s, m, [x]⟩ f).toArray⟩) ∧ Below w.heap.size w w' := by
  have HI := Lib.hid h
  have QC := Lib.hid (refQuote_any s)
  have hq := quoteT_len s
  have hsz := h.text
  simp only at hsz
  have hq1 : (quoteT s).length ≤ 800002 := by omega
  have HS := Lib.hid (show s.size ≤ 2000000 by omega)
  have HW0 := Lib.hid (((Below.refl w.heap.size w).alloc (Nat.le_refl _) (.cells #[.slice A l0.length c] 24)).alloc (by simp) (.cells #[.int .i64 20, .string s, .int .i64 m, .slice A3 1 c3] 45))
  clear h hq hsz
  go_enter Tryd.func29, Tryd.ntmps29
  go_wp2_with fail
  refine (QC.out _ HS.out).mono ?_
  rintro e w2 ⟨rfl, hB⟩
  have HW2 := Lib.hid (HW0.out.trans (hB.mono (by simp; omega)))
  have T2 := Lib.hid (HI.out.below HW2.out)
  have t0 := (hB.cell (p := ⟨w.heap.size, 0, none⟩) (by simp; omega))
  have d0 := (hB.cell (p := ⟨w.heap.size + 1, 0, none⟩) (by simp))
  have d1 := (hB.cell (p := ⟨w.heap.size + 1, 1, none⟩) (by simp))
  have d2 := (hB.cell (p := ⟨w.heap.size + 1, 2, none⟩) (by simp))
  have d3 := (hB.cell (p := ⟨w.heap.size + 1, 3, none⟩) (by simp))
  simp at t0 d0 d1 d2 d3
  clear hB
  obtain ⟨ad, rfl, a0, a1, a2, a3, a4⟩ := T2.out.kid0
  go_wp2
  go_ret
  exact ⟨str_val (by simp [partT, selT, joinT, oneT, brackB, ba_append]), HW2.out⟩

set_option maxHeartbeats 4000000 in
set_option maxRecDepth 100000 in
theorem text19 (s : ByteArray) (m x : Int) (h : TIn w A l0 f ⟨19, s, m, [x]⟩ A3 g n) (hlen : (f x).length ≤ 1000000) :
    Calls Tryd.prog 29 #[.agg #[.slice A l0.length c], pval ⟨19, s, m, [x]⟩ A3 c3, .slice (some ⟨g, 0, none⟩) n n] w fun e w' => e = .returned (.string ⟨(partT l0 ⟨19, s, m, [x]⟩ f).toArray⟩) ∧ Below w.heap.size w w' := by
  have HI := Lib.hid h
  have QC := Lib.hid (refQuote_any s)
  have hq := quoteT_len s
  have hsz := h.text
  simp only at hsz
  have hq1 : (quoteT s).length ≤ 800002 := by omega
  have HS := Lib.hid (show s.size ≤ 2000000 by omega)
  have HW0 := Lib.hid (((Below.refl w.heap.size w).alloc (Nat.le_refl _) (.cells #[.slice A l0.length c] 24)).alloc (by simp) (.cells #[.int .i64 19, .string s, .int .i64 m, .slice A3 1 c3] 45))
  clear h hq hsz
  go_enter Tryd.func29, Tryd.ntmps29
  go_wp2_with fail
  refine (QC.out _ HS.out).mono ?_
  rintro e w2 ⟨rfl, hB⟩
  have HW2 := Lib.hid (HW0.out.trans (hB.mono (by simp; omega)))
  have T2 := Lib.hid (HI.out.below HW2.out)
  have t0 := (hB.cell (p := ⟨w.heap.size, 0, none⟩) (by simp; omega))
  have d0 := (hB.cell (p := ⟨w.heap.size + 1, 0, none⟩) (by simp))
  have d1 := (hB.cell (p := ⟨w.heap.size + 1, 1, none⟩) (by simp))
  have d2 := (hB.cell (p := ⟨w.heap.size + 1, 2, none⟩) (by simp))
  have d3 := (hB.cell (p := ⟨w.heap.size + 1, 3, none⟩) (by simp))
  simp at t0 d0 d1 d2 d3
  clear hB
  obtain ⟨ad, rfl, a0, a1, a2, a3, a4⟩ := T2.out.kid0
  go_wp2
  go_ret
  exact ⟨str_val (by simp [partT, termT, joinT, oneT, brackB, ba_append]), HW2.out⟩

set_option maxHeartbeats 4000000 in
set_option maxRecDepth 100000 in
theorem text_leaf (k : Int) (s : ByteArray) (m : Int) (ks : List Int) (hk : leafK k) (h : TIn w A l0 f ⟨k, s, m, ks⟩ A3 g n) :
    Calls Tryd.prog 29 #[.agg #[.slice A l0.length c], pval ⟨k, s, m, ks⟩ A3 c3, .slice (some ⟨g, 0, none⟩) n n] w fun e w' => e = .returned (.string ⟨(partT l0 ⟨k, s, m, ks⟩ f).toArray⟩) ∧ Below w.heap.size w w' := by
  have LF := Lib.hid (fun W => leaf_any l0 f ⟨k, s, m, ks⟩ A3 c3 W h.text h.lo h.hi hk)
  have HI := Lib.hid h
  have QC := Lib.hid (refQuote_any s)
  have hq := quoteT_len s
  have hsz := h.text
  simp only at hsz
  have hq1 : (quoteT s).length ≤ 800002 := by omega
  have HS := Lib.hid (show s.size ≤ 2000000 by omega)
  have HW0 := Lib.hid (((Below.refl w.heap.size w).alloc (Nat.le_refl _) (.cells #[.slice A l0.length c] 24)).alloc (by simp) (.cells #[.int .i64 k, .string s, .int .i64 m, .slice A3 ks.length c3] 45))
  clear h hq hsz
  unfold leafK at hk
  rcases hk with rfl | rfl | rfl | rfl | rfl | rfl | rfl | rfl | rfl | rfl
  all_goals
    go_enter Tryd.func29, Tryd.ntmps29
    go_wp2_with fail
    refine (QC.out _ HS.out).mono ?_
    rintro e w2 ⟨rfl, hB⟩
    have HW2 := Lib.hid (HW0.out.trans (hB.mono (by simp; omega)))
    have T2 := Lib.hid (HI.out.below HW2.out)
    have t0 := (hB.cell (p := ⟨w.heap.size, 0, none⟩) (by simp; omega))
    have d0 := (hB.cell (p := ⟨w.heap.size + 1, 0, none⟩) (by simp))
    have d1 := (hB.cell (p := ⟨w.heap.size + 1, 1, none⟩) (by simp))
    have d2 := (hB.cell (p := ⟨w.heap.size + 1, 2, none⟩) (by simp))
    have d3 := (hB.cell (p := ⟨w.heap.size + 1, 3, none⟩) (by simp))
    simp at t0 d0 d1 d2 d3
    clear hB
    go_wp2_with fail
    refine (LF.out _).mono ?_
    rintro e w3 ⟨rfl, hB3⟩
    go_wp2
    go_ret
    exact ⟨rfl, HW2.out.trans (hB3.mono HW2.out.size)⟩
end Go.Proofs.YteeojceloljcbaaDoor.H
