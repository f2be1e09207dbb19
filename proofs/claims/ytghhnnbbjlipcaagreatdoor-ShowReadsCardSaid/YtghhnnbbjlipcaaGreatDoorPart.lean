/-
  The writer's selector and part.
-/
import Derived.Test.YtghhnnbbjlipcaaGreatDoorTerm
set_option linter.unusedVariables false
set_option linter.unusedSimpArgs false
namespace Go.Proofs.YtghhnnbbjlipcaaGreatDoor.H
open Go.RowKit Go.Proofs.YtghhnnbbjlipcaaGreatDoorW.PrintWords Go.Proofs.YtghhnnbbjlipcaaGreatDoorW.PrintLast Go.Proofs.YtghhnnbbjlipcaaGreatDoor.P
variable {base b : Nat} {A : Option Addr} {c : Nat} {l0 : List Pt} {f : Int → Bs} {bs : Bs} {w : World}

set_option maxHeartbeats 2000000 in
set_option maxRecDepth 100000 in
theorem sel_any (word : ByteArray) (p : Pt) (A3 : Option Addr) (c3 : Nat) (h : Rdy base b A c l0 bs w) (hf : Fit base b A c l0 f w p A3) (hlen : bs.length + (selT l0 p f word.data.toList).length ≤ 140737488355328) :
    Calls Tryz.prog 57 #[.pointer (some ⟨b, 0, none⟩), .string word, pval p A3 c3] w (Wrote base b A c l0 (bs ++ selT l0 p f word.data.toList) w) := by
  have H := Lib.hid h
  have HF := Lib.hid hf
  have hbl := h.isw.lt
  obtain ⟨k, s, n, ks⟩ := p
  have HB : Hid (selT l0 ⟨k, s, n, ks⟩ f word.data.toList = flat [word, ⟨#[40]⟩, ⟨(quoteT s).toArray⟩, ⟨#[44, 32]⟩] ++ joinT l0 ⟨k, s, n, ks⟩ ([] : Bs) f ks ++ ([41] : Bs)) := Lib.hid (by simp [flat, selT])
  have hl2 : bs.length + ((flat [word, ⟨#[40]⟩, ⟨(quoteT s).toArray⟩, ⟨#[44, 32]⟩]).length + (joinT l0 ⟨k, s, n, ks⟩ ([] : Bs) f ks).length + 1) ≤ 140737488355328 := by
    have := hlen; rw [HB.out, List.length_append, List.length_append] at this; exact this
  have HL2 := Lib.hid hl2
  clear h hf hlen hl2
  go_enter Tryz.func57, Tryz.ntmps57
  go_wp2_with (go_at_call 83; refine (quote_c _ HF.out.text _).mono ?_; rintro e w1 ⟨rfl, hb1⟩)
  have hbw := below_alloc (bstep (below_alloc (Below.refl w.heap.size w) _) hb1) (.cells #[.string word, .string ⟨#[40]⟩, .string ⟨(quoteT s).toArray⟩, .string ⟨#[44, 32]⟩] 9)
  have hbx := hb1.block w.heap.size (by simp)
  rw [Go.heap_alloc_new] at hbx
  have HBX := Lib.hid hbx
  have HBW := Lib.hid hbw
  have hwl : w.heap.size < w1.heap.size := by have := hb1.size; simp at this; omega
  clear hbx hbw
  have R1 := Lib.hid (H.out.frame HBW.out)
  refine (putn4 w1.heap.size _ R1.out (Go.heap_alloc_new _ _) (by omega) (by have := HL2.out; omega)).mono ?_
  rintro e w5 ⟨rfl, i5, k5⟩
  have hbox : w5.heap[w.heap.size]? = some (.cells #[.int .i64 k, .string s, .int .i64 n, .slice A3 ks.length c3] 45 (0, 0)) :=
    k5.block (by rw [Below.heap_alloc _ _ _ (by omega)]; exact HBX.out) (by omega) (by decide)
  have d0 : w5.cell? ⟨w.heap.size, 0, none⟩ = some (.int .i64 k) := by rw [Lib.cell_of_heap hbox]; rfl
  have d1 : w5.cell? ⟨w.heap.size, 1, none⟩ = some (.string s) := by rw [Lib.cell_of_heap hbox]; rfl
  have d2 : w5.cell? ⟨w.heap.size, 2, none⟩ = some (.int .i64 n) := by rw [Lib.cell_of_heap hbox]; rfl
  have d3 : w5.cell? ⟨w.heap.size, 3, none⟩ = some (.slice A3 ks.length c3) := by rw [Lib.cell_of_heap hbox]; rfl
  have R2 := Lib.hid (R1.out.next k5 i5)
  have KW5 := Lib.hid ((KW.of_below HBW.out H.out.size).trans k5)
  clear hbox i5 k5
  go_wp2_with fail
  refine (Fit.list (HF.out.next KW5.out.bel) R2.out c3 ⟨#[]⟩ (by have := HL2.out; rw [List.length_append]; show bs.length + (flat [word, ⟨#[40]⟩, ⟨(quoteT s).toArray⟩, ⟨#[44, 32]⟩]).length + (joinT l0 ⟨k, s, n, ks⟩ ([] : Bs) f ks).length ≤ _; omega)).mono ?_
  rintro e w6 ⟨rfl, i6, k6⟩
  have R3 := Lib.hid (R2.out.next k6 i6)
  clear i6
  go_wp2_with fail
  have R4 := Lib.hid (R3.out.frame (below_alloc (Below.refl _ _) (.cells #[.string ⟨#[41]⟩] 9)))
  refine (put1 base b w6.heap.size A c l0 _ ⟨#[41]⟩ _ R4.out (Go.heap_alloc_new _ _) (by have := R3.out.isw.lt; omega) (by have := HL2.out; rw [List.length_append, List.length_append]; show bs.length + (flat [word, ⟨#[40]⟩, ⟨(quoteT s).toArray⟩, ⟨#[44, 32]⟩]).length + (joinT l0 ⟨k, s, n, ks⟩ ([] : Bs) f ks).length + 1 ≤ _; omega)).mono ?_
  rintro e w7 ⟨rfl, i7, k7⟩
  go_wp2
  go_end0
  have hb := HB.out
  refine ⟨rfl, ?_, KW5.out.trans (k6.trans (((KW.refl _ _ _).alloc R3.out.size _).trans k7))⟩
  rw [hb]
  simpa only [List.append_assoc] using i7

/-- What the writing of a part wants of it, memory aside. -/
structure FitP (base b : Nat) (A : Option Addr) (c : Nat) (l0 : List Pt) (f : Int → Bs) (p : Pt) : Prop where
  ok : KidsOk base b A c l0 f p.f3
  few : p.f3.length ≤ 1000
  few0 : l0.length ≤ 1000
  text : p.f1.data.toList.length ≤ 2000000
  lo : -9223372036854775808 ≤ p.f2
  hi : p.f2 ≤ 9223372036854775807
theorem FitP.fit {p : Pt} (h : FitP base b A c l0 f p) {A3 : Option Addr} (hk : Kd.F (Kd.int .i64) w (fun k => k < base) A3 p.f3.length p.f3) : Fit base b A c l0 f w p A3 := ⟨hk, h.ok, h.few, h.few0, h.text, h.lo, h.hi⟩
/-- The part at a place, as its cells in memory. -/
theorem Rdy.at_ (h : Rdy base b A c l0 bs w) (at_ : Int) (h0 : 0 ≤ at_) (h1 : at_ < (l0.length : Int)) (p : Pt) (hp : rd_T45 l0 at_ = p) : ∃ ad A3 c3, A = some ad ∧ w.cell? (ad.add (at_.toNat * 4)) = some (.int .i64 p.f0) ∧ w.cell? ⟨(ad.add (at_.toNat * 4)).block, (ad.add (at_.toNat * 4)).off + 1, none⟩ = some (.string p.f1) ∧
    w.cell? ⟨(ad.add (at_.toNat * 4)).block, (ad.add (at_.toNat * 4)).off + 2, none⟩ = some (.int .i64 p.f2) ∧ w.cell? ⟨(ad.add (at_.toNat * 4)).block, (ad.add (at_.toNat * 4)).off + 3, none⟩ = some (.slice A3 p.f3.length c3) ∧ Kd.F (Kd.int .i64) w (fun k => k < base) A3 p.f3.length p.f3 := by
  obtain ⟨ad, cs, e, _, hK, hc0, _⟩ := Kd.F_get h.parts z45 at_ h0 h1
  rw [show l0.getD at_.toNat z45 = p from hp] at hK
  obtain ⟨A3, c3, rfl, l3, g3⟩ := k45_openF hK
  have hc : ∀ j u, [Value.int .i64 p.f0, .string p.f1, .int .i64 p.f2, .slice A3 p.f3.length c3][j]? = some u → w.cell? (ad.add (at_.toNat * 4 + j)) = some u := hc0
  exact ⟨ad, A3, c3, e, hc 0 _ rfl, by rw [← add_field _ _ 1 (by omega)]; exact hc 1 _ rfl, by rw [← add_field _ _ 2 (by omega)]; exact hc 2 _ rfl, by rw [← add_field _ _ 3 (by omega)]; exact hc 3 _ rfl, g3⟩

set_option maxHeartbeats 2000000 in
set_option maxRecDepth 100000 in
theorem part1 (at_ : Int) (h0 : 0 ≤ at_) (h1 : at_ < (l0.length : Int)) (s : ByteArray) (n : Int) (ks : List Int) (hp : rd_T45 l0 at_ = ⟨1, s, n, ks⟩) (h : Rdy base b A c l0 bs w) (hf : FitP base b A c l0 f ⟨1, s, n, ks⟩) (hlen : bs.length + (partT l0 ⟨1, s, n, ks⟩ f).length ≤ 140737488355328) :
    Calls Tryz.prog 36 #[.pointer (some ⟨b, 0, none⟩), .int .i64 at_] w (Wrote base b A c l0 (bs ++ partT l0 ⟨1, s, n, ks⟩ f) w) := by
  obtain ⟨ad, A3, c3, rfl, e0, e1, e2, e3, hK⟩ := h.at_ at_ h0 h1 _ hp
  have H := Lib.hid h
  have HF := Lib.hid (hf.fit hK)
  have HL := Lib.hid hlen
  have hbl := h.isw.lt
  have ec := h.isw.c0
  clear h hf hlen hK hp
  have HB : Hid (bs ++ partT l0 ⟨1, s, n, ks⟩ f = bs ++ (⟨#[116, 114, 117, 101]⟩ : ByteArray).data.toList) := Lib.hid rfl
  go_enter Tryz.func36, Tryz.ntmps36
  go_wp2_with fail
  have R1 := Lib.hid (H.out.frame (below_alloc (below_alloc (Below.refl _ _) (.cells #[.int .i64 1, .string s, .int .i64 n, .slice A3 ks.length c3] 45)) (.cells #[.string ⟨#[116, 114, 117, 101]⟩] 9)))
  refine (put1 base b (w.heap.size + 1) (some ad) c l0 bs ⟨#[116, 114, 117, 101]⟩ _ R1.out (Go.heap_alloc2_new w _ _) (by omega) (by have := HL.out; exact this)).mono ?_
  rintro e w5 ⟨rfl, i5, k5⟩
  go_wp2
  go_end0
  exact ⟨rfl, i5, (((KW.refl _ _ _).alloc H.out.size _).alloc (by have := H.out.size; simp; omega) _).trans k5⟩

set_option maxHeartbeats 2000000 in
set_option maxRecDepth 100000 in
theorem part2 (at_ : Int) (h0 : 0 ≤ at_) (h1 : at_ < (l0.length : Int)) (s : ByteArray) (n : Int) (ks : List Int) (hp : rd_T45 l0 at_ = ⟨2, s, n, ks⟩) (h : Rdy base b A c l0 bs w) (hf : FitP base b A c l0 f ⟨2, s, n, ks⟩) (hlen : bs.length + (partT l0 ⟨2, s, n, ks⟩ f).length ≤ 140737488355328) :
    Calls Tryz.prog 36 #[.pointer (some ⟨b, 0, none⟩), .int .i64 at_] w (Wrote base b A c l0 (bs ++ partT l0 ⟨2, s, n, ks⟩ f) w) := by
  obtain ⟨ad, A3, c3, rfl, e0, e1, e2, e3, hK⟩ := h.at_ at_ h0 h1 _ hp
  have H := Lib.hid h
  have HF := Lib.hid (hf.fit hK)
  have HL := Lib.hid hlen
  have hbl := h.isw.lt
  have ec := h.isw.c0
  clear h hf hlen hK hp
  have HB : Hid (bs ++ partT l0 ⟨2, s, n, ks⟩ f = bs ++ (⟨#[102, 97, 108, 115, 101]⟩ : ByteArray).data.toList) := Lib.hid rfl
  go_enter Tryz.func36, Tryz.ntmps36
  go_wp2_with fail
  have R1 := Lib.hid (H.out.frame (below_alloc (below_alloc (Below.refl _ _) (.cells #[.int .i64 2, .string s, .int .i64 n, .slice A3 ks.length c3] 45)) (.cells #[.string ⟨#[102, 97, 108, 115, 101]⟩] 9)))
  refine (put1 base b (w.heap.size + 1) (some ad) c l0 bs ⟨#[102, 97, 108, 115, 101]⟩ _ R1.out (Go.heap_alloc2_new w _ _) (by omega) (by have := HL.out; exact this)).mono ?_
  rintro e w5 ⟨rfl, i5, k5⟩
  go_wp2
  go_end0
  exact ⟨rfl, i5, (((KW.refl _ _ _).alloc H.out.size _).alloc (by have := H.out.size; simp; omega) _).trans k5⟩

set_option maxHeartbeats 2000000 in
set_option maxRecDepth 100000 in
theorem part3 (at_ : Int) (h0 : 0 ≤ at_) (h1 : at_ < (l0.length : Int)) (s : ByteArray) (n : Int) (ks : List Int) (hp : rd_T45 l0 at_ = ⟨3, s, n, ks⟩) (h : Rdy base b A c l0 bs w) (hf : FitP base b A c l0 f ⟨3, s, n, ks⟩) (hlen : bs.length + (partT l0 ⟨3, s, n, ks⟩ f).length ≤ 140737488355328) :
    Calls Tryz.prog 36 #[.pointer (some ⟨b, 0, none⟩), .int .i64 at_] w (Wrote base b A c l0 (bs ++ partT l0 ⟨3, s, n, ks⟩ f) w) := by
  obtain ⟨ad, A3, c3, rfl, e0, e1, e2, e3, hK⟩ := h.at_ at_ h0 h1 _ hp
  have H := Lib.hid h
  have HF := Lib.hid (hf.fit hK)
  have HL := Lib.hid hlen
  have hbl := h.isw.lt
  have ec := h.isw.c0
  clear h hf hlen hK hp
  have HB : Hid (partT l0 ⟨3, s, n, ks⟩ f = ([33] : Bs) ++ joinT l0 ⟨3, s, n, ks⟩ ([] : Bs) f ks) := Lib.hid rfl
  have hl2 : bs.length + (1 + (joinT l0 ⟨3, s, n, ks⟩ ([] : Bs) f ks).length) ≤ 140737488355328 := by
    have := HL.out; rw [HB.out, List.length_append] at this; exact this
  have HL2 := Lib.hid hl2
  clear hl2
  go_enter Tryz.func36, Tryz.ntmps36
  go_wp2_with fail
  have R1 := Lib.hid (H.out.frame (below_alloc (below_alloc (Below.refl _ _) (.cells #[.int .i64 3, .string s, .int .i64 n, .slice A3 ks.length c3] 45)) (.cells #[.string ⟨#[33]⟩] 9)))
  refine (put1 base b (w.heap.size + 1) (some ad) c l0 bs ⟨#[33]⟩ _ R1.out (Go.heap_alloc2_new w _ _) (by omega) (by have := HL2.out; show bs.length + 1 ≤ _; omega)).mono ?_
  rintro e w5 ⟨rfl, i5, k5⟩
  have hbox : w5.heap[w.heap.size]? = some (.cells #[.int .i64 3, .string s, .int .i64 n, .slice A3 ks.length c3] 45 (0, 0)) :=
    k5.block (by rw [Below.heap_alloc _ _ _ (by simp)]; exact Go.heap_alloc_new _ _) (by omega) (by decide)
  have d0 : w5.cell? ⟨w.heap.size, 0, none⟩ = some (.int .i64 3) := by rw [Lib.cell_of_heap hbox]; rfl
  have d1 : w5.cell? ⟨w.heap.size, 1, none⟩ = some (.string s) := by rw [Lib.cell_of_heap hbox]; rfl
  have d2 : w5.cell? ⟨w.heap.size, 2, none⟩ = some (.int .i64 n) := by rw [Lib.cell_of_heap hbox]; rfl
  have d3 : w5.cell? ⟨w.heap.size, 3, none⟩ = some (.slice A3 ks.length c3) := by rw [Lib.cell_of_heap hbox]; rfl
  have R2 := Lib.hid (R1.out.next k5 i5)
  have KW5 := Lib.hid ((((KW.refl base b w).alloc H.out.size _).alloc (by have := H.out.size; simp; omega) _).trans k5)
  clear hbox i5 k5
  go_wp2_with fail
  refine (Fit.list (HF.out.next KW5.out.bel) R2.out c3 ⟨#[]⟩ (by have := HL2.out; rw [List.length_append]; show bs.length + 1 + (joinT l0 ⟨3, s, n, ks⟩ ([] : Bs) f ks).length ≤ _; omega)).mono ?_
  rintro e w6 ⟨rfl, i6, k6⟩
  go_wp2
  go_end0
  have hb := HB.out
  refine ⟨rfl, ?_, KW5.out.trans k6⟩
  rw [hb, ← List.append_assoc]
  exact i6

set_option maxHeartbeats 2000000 in
set_option maxRecDepth 100000 in
theorem part4 (at_ : Int) (h0 : 0 ≤ at_) (h1 : at_ < (l0.length : Int)) (s : ByteArray) (n : Int) (ks : List Int) (hp : rd_T45 l0 at_ = ⟨4, s, n, ks⟩) (h : Rdy base b A c l0 bs w) (hf : FitP base b A c l0 f ⟨4, s, n, ks⟩) (hlen : bs.length + (partT l0 ⟨4, s, n, ks⟩ f).length ≤ 140737488355328) :
    Calls Tryz.prog 36 #[.pointer (some ⟨b, 0, none⟩), .int .i64 at_] w (Wrote base b A c l0 (bs ++ partT l0 ⟨4, s, n, ks⟩ f) w) := by
  obtain ⟨ad, A3, c3, rfl, e0, e1, e2, e3, hK⟩ := h.at_ at_ h0 h1 _ hp
  have H := Lib.hid h
  have HF := Lib.hid (hf.fit hK)
  have HL := Lib.hid hlen
  have hbl := h.isw.lt
  have ec := h.isw.c0
  clear h hf hlen hK hp
  have HB : Hid (partT l0 ⟨4, s, n, ks⟩ f = joinT l0 ⟨4, s, n, ks⟩ ([32, 38, 38, 32] : Bs) f ks) := Lib.hid (rfl)
  have HL2 : Hid (bs.length + (joinT l0 ⟨4, s, n, ks⟩ ([32, 38, 38, 32] : Bs) f ks).length ≤ 140737488355328) := Lib.hid (by rw [← HB.out]; exact HL.out)
  go_enter Tryz.func36, Tryz.ntmps36
  go_wp2_with fail
  have hbw := below_alloc (Below.refl w.heap.size w) (.cells #[.int .i64 4, .string s, .int .i64 n, .slice A3 ks.length c3] 45)
  refine (Fit.list (HF.out.next (hbw.mono H.out.size)) (H.out.frame hbw) c3 ⟨#[32, 38, 38, 32]⟩ HL2.out).mono ?_
  rintro e w6 ⟨rfl, i6, k6⟩
  go_wp2
  go_end0
  have hb := HB.out
  refine ⟨rfl, ?_, (KW.of_below hbw H.out.size).trans k6⟩
  rw [hb]
  exact i6

set_option maxHeartbeats 2000000 in
set_option maxRecDepth 100000 in
theorem part5 (at_ : Int) (h0 : 0 ≤ at_) (h1 : at_ < (l0.length : Int)) (s : ByteArray) (n : Int) (ks : List Int) (hp : rd_T45 l0 at_ = ⟨5, s, n, ks⟩) (h : Rdy base b A c l0 bs w) (hf : FitP base b A c l0 f ⟨5, s, n, ks⟩) (hlen : bs.length + (partT l0 ⟨5, s, n, ks⟩ f).length ≤ 140737488355328) :
    Calls Tryz.prog 36 #[.pointer (some ⟨b, 0, none⟩), .int .i64 at_] w (Wrote base b A c l0 (bs ++ partT l0 ⟨5, s, n, ks⟩ f) w) := by
  obtain ⟨ad, A3, c3, rfl, e0, e1, e2, e3, hK⟩ := h.at_ at_ h0 h1 _ hp
  have H := Lib.hid h
  have HF := Lib.hid (hf.fit hK)
  have HL := Lib.hid hlen
  have hbl := h.isw.lt
  have ec := h.isw.c0
  clear h hf hlen hK hp
  have HB : Hid (partT l0 ⟨5, s, n, ks⟩ f = joinT l0 ⟨5, s, n, ks⟩ ([32, 124, 124, 32] : Bs) f ks) := Lib.hid (rfl)
  have HL2 : Hid (bs.length + (joinT l0 ⟨5, s, n, ks⟩ ([32, 124, 124, 32] : Bs) f ks).length ≤ 140737488355328) := Lib.hid (by rw [← HB.out]; exact HL.out)
  go_enter Tryz.func36, Tryz.ntmps36
  go_wp2_with fail
  have hbw := below_alloc (Below.refl w.heap.size w) (.cells #[.int .i64 5, .string s, .int .i64 n, .slice A3 ks.length c3] 45)
  refine (Fit.list (HF.out.next (hbw.mono H.out.size)) (H.out.frame hbw) c3 ⟨#[32, 124, 124, 32]⟩ HL2.out).mono ?_
  rintro e w6 ⟨rfl, i6, k6⟩
  go_wp2
  go_end0
  have hb := HB.out
  refine ⟨rfl, ?_, (KW.of_below hbw H.out.size).trans k6⟩
  rw [hb]
  exact i6

set_option maxHeartbeats 2000000 in
set_option maxRecDepth 100000 in
theorem part7_0 (at_ : Int) (h0 : 0 ≤ at_) (h1 : at_ < (l0.length : Int)) (s : ByteArray) (ks : List Int) (hp : rd_T45 l0 at_ = ⟨7, s, 0, ks⟩) (h : Rdy base b A c l0 bs w) (hf : FitP base b A c l0 f ⟨7, s, 0, ks⟩) (hlen : bs.length + (partT l0 ⟨7, s, 0, ks⟩ f).length ≤ 140737488355328) :
    Calls Tryz.prog 36 #[.pointer (some ⟨b, 0, none⟩), .int .i64 at_] w (Wrote base b A c l0 (bs ++ partT l0 ⟨7, s, 0, ks⟩ f) w) := by
  obtain ⟨ad, A3, c3, rfl, e0, e1, e2, e3, hK⟩ := h.at_ at_ h0 h1 _ hp
  have H := Lib.hid h
  have HF := Lib.hid (hf.fit hK)
  have HL := Lib.hid hlen
  have hbl := h.isw.lt
  have ec := h.isw.c0
  clear h hf hlen hK hp
  have HB : Hid (partT l0 ⟨7, s, 0, ks⟩ f = joinT l0 ⟨7, s, 0, ks⟩ ([32, 105, 110, 32] : Bs) f ks) := Lib.hid (rfl)
  have HL2 : Hid (bs.length + (joinT l0 ⟨7, s, 0, ks⟩ ([32, 105, 110, 32] : Bs) f ks).length ≤ 140737488355328) := Lib.hid (by rw [← HB.out]; exact HL.out)
  go_enter Tryz.func36, Tryz.ntmps36
  go_wp2_with fail
  have hbw := below_alloc (Below.refl w.heap.size w) (.cells #[.int .i64 7, .string s, .int .i64 0, .slice A3 ks.length c3] 45)
  refine (Fit.list (HF.out.next (hbw.mono H.out.size)) (H.out.frame hbw) c3 ⟨#[32, 105, 110, 32]⟩ HL2.out).mono ?_
  rintro e w6 ⟨rfl, i6, k6⟩
  go_wp2
  go_end0
  have hb := HB.out
  refine ⟨rfl, ?_, (KW.of_below hbw H.out.size).trans k6⟩
  rw [hb]
  exact i6

set_option maxHeartbeats 2000000 in
set_option maxRecDepth 100000 in
theorem part7_1 (at_ : Int) (h0 : 0 ≤ at_) (h1 : at_ < (l0.length : Int)) (s : ByteArray) (ks : List Int) (hp : rd_T45 l0 at_ = ⟨7, s, 1, ks⟩) (h : Rdy base b A c l0 bs w) (hf : FitP base b A c l0 f ⟨7, s, 1, ks⟩) (hlen : bs.length + (partT l0 ⟨7, s, 1, ks⟩ f).length ≤ 140737488355328) :
    Calls Tryz.prog 36 #[.pointer (some ⟨b, 0, none⟩), .int .i64 at_] w (Wrote base b A c l0 (bs ++ partT l0 ⟨7, s, 1, ks⟩ f) w) := by
  obtain ⟨ad, A3, c3, rfl, e0, e1, e2, e3, hK⟩ := h.at_ at_ h0 h1 _ hp
  have H := Lib.hid h
  have HF := Lib.hid (hf.fit hK)
  have HL := Lib.hid hlen
  have hbl := h.isw.lt
  have ec := h.isw.c0
  clear h hf hlen hK hp
  have HB : Hid (partT l0 ⟨7, s, 1, ks⟩ f = joinT l0 ⟨7, s, 1, ks⟩ ([32, 110, 111, 116, 105, 110, 32] : Bs) f ks) := Lib.hid (rfl)
  have HL2 : Hid (bs.length + (joinT l0 ⟨7, s, 1, ks⟩ ([32, 110, 111, 116, 105, 110, 32] : Bs) f ks).length ≤ 140737488355328) := Lib.hid (by rw [← HB.out]; exact HL.out)
  go_enter Tryz.func36, Tryz.ntmps36
  go_wp2_with fail
  have hbw := below_alloc (Below.refl w.heap.size w) (.cells #[.int .i64 7, .string s, .int .i64 1, .slice A3 ks.length c3] 45)
  refine (Fit.list (HF.out.next (hbw.mono H.out.size)) (H.out.frame hbw) c3 ⟨#[32, 110, 111, 116, 105, 110, 32]⟩ HL2.out).mono ?_
  rintro e w6 ⟨rfl, i6, k6⟩
  go_wp2
  go_end0
  have hb := HB.out
  refine ⟨rfl, ?_, (KW.of_below hbw H.out.size).trans k6⟩
  rw [hb]
  exact i6

set_option maxHeartbeats 2000000 in
set_option maxRecDepth 100000 in
theorem part8 (at_ : Int) (h0 : 0 ≤ at_) (h1 : at_ < (l0.length : Int)) (s : ByteArray) (n : Int) (ks : List Int) (hp : rd_T45 l0 at_ = ⟨8, s, n, ks⟩) (h : Rdy base b A c l0 bs w) (hf : FitP base b A c l0 f ⟨8, s, n, ks⟩) (hlen : bs.length + (partT l0 ⟨8, s, n, ks⟩ f).length ≤ 140737488355328) :
    Calls Tryz.prog 36 #[.pointer (some ⟨b, 0, none⟩), .int .i64 at_] w (Wrote base b A c l0 (bs ++ partT l0 ⟨8, s, n, ks⟩ f) w) := by
  obtain ⟨ad, A3, c3, rfl, e0, e1, e2, e3, hK⟩ := h.at_ at_ h0 h1 _ hp
  have H := Lib.hid h
  have HF := Lib.hid (hf.fit hK)
  have HL := Lib.hid hlen
  have hbl := h.isw.lt
  have ec := h.isw.c0
  clear h hf hlen hK hp
  go_enter Tryz.func36, Tryz.ntmps36
  go_wp2_with fail
  have hbw := below_alloc (Below.refl w.heap.size w) (.cells #[.int .i64 8, .string s, .int .i64 n, .slice A3 ks.length c3] 45)
  refine (sel_any ⟨#[110, 101, 97, 114]⟩ ⟨8, s, n, ks⟩ A3 c3 (H.out.frame hbw) (HF.out.next (hbw.mono H.out.size)) HL.out).mono ?_
  rintro e w6 ⟨rfl, i6, k6⟩
  go_wp2
  go_end0
  exact ⟨rfl, i6, (KW.of_below hbw H.out.size).trans k6⟩

set_option maxHeartbeats 2000000 in
set_option maxRecDepth 100000 in
theorem part9 (at_ : Int) (h0 : 0 ≤ at_) (h1 : at_ < (l0.length : Int)) (s : ByteArray) (n : Int) (ks : List Int) (hp : rd_T45 l0 at_ = ⟨9, s, n, ks⟩) (h : Rdy base b A c l0 bs w) (hf : FitP base b A c l0 f ⟨9, s, n, ks⟩) (hlen : bs.length + (partT l0 ⟨9, s, n, ks⟩ f).length ≤ 140737488355328) :
    Calls Tryz.prog 36 #[.pointer (some ⟨b, 0, none⟩), .int .i64 at_] w (Wrote base b A c l0 (bs ++ partT l0 ⟨9, s, n, ks⟩ f) w) := by
  obtain ⟨ad, A3, c3, rfl, e0, e1, e2, e3, hK⟩ := h.at_ at_ h0 h1 _ hp
  have H := Lib.hid h
  have HF := Lib.hid (hf.fit hK)
  have HL := Lib.hid hlen
  have hbl := h.isw.lt
  have ec := h.isw.c0
  clear h hf hlen hK hp
  go_enter Tryz.func36, Tryz.ntmps36
  go_wp2_with fail
  have hbw := below_alloc (Below.refl w.heap.size w) (.cells #[.int .i64 9, .string s, .int .i64 n, .slice A3 ks.length c3] 45)
  refine (sel_any ⟨#[97, 112, 97, 114, 116]⟩ ⟨9, s, n, ks⟩ A3 c3 (H.out.frame hbw) (HF.out.next (hbw.mono H.out.size)) HL.out).mono ?_
  rintro e w6 ⟨rfl, i6, k6⟩
  go_wp2
  go_end0
  exact ⟨rfl, i6, (KW.of_below hbw H.out.size).trans k6⟩

set_option maxHeartbeats 2000000 in
set_option maxRecDepth 100000 in
theorem part20 (at_ : Int) (h0 : 0 ≤ at_) (h1 : at_ < (l0.length : Int)) (s : ByteArray) (n : Int) (ks : List Int) (hp : rd_T45 l0 at_ = ⟨20, s, n, ks⟩) (h : Rdy base b A c l0 bs w) (hf : FitP base b A c l0 f ⟨20, s, n, ks⟩) (hlen : bs.length + (partT l0 ⟨20, s, n, ks⟩ f).length ≤ 140737488355328) :
    Calls Tryz.prog 36 #[.pointer (some ⟨b, 0, none⟩), .int .i64 at_] w (Wrote base b A c l0 (bs ++ partT l0 ⟨20, s, n, ks⟩ f) w) := by
  obtain ⟨ad, A3, c3, rfl, e0, e1, e2, e3, hK⟩ := h.at_ at_ h0 h1 _ hp
  have H := Lib.hid h
  have HF := Lib.hid (hf.fit hK)
  have HL := Lib.hid hlen
  have hbl := h.isw.lt
  have ec := h.isw.c0
  clear h hf hlen hK hp
  go_enter Tryz.func36, Tryz.ntmps36
  go_wp2_with fail
  have hbw := below_alloc (Below.refl w.heap.size w) (.cells #[.int .i64 20, .string s, .int .i64 n, .slice A3 ks.length c3] 45)
  refine (sel_any ⟨#[99, 111, 117, 110, 116]⟩ ⟨20, s, n, ks⟩ A3 c3 (H.out.frame hbw) (HF.out.next (hbw.mono H.out.size)) HL.out).mono ?_
  rintro e w6 ⟨rfl, i6, k6⟩
  go_wp2
  go_end0
  exact ⟨rfl, i6, (KW.of_below hbw H.out.size).trans k6⟩

set_option maxHeartbeats 2000000 in
set_option maxRecDepth 100000 in
theorem part10 (at_ : Int) (h0 : 0 ≤ at_) (h1 : at_ < (l0.length : Int)) (s : ByteArray) (n : Int) (ks : List Int) (hp : rd_T45 l0 at_ = ⟨10, s, n, ks⟩) (h : Rdy base b A c l0 bs w) (hf : FitP base b A c l0 f ⟨10, s, n, ks⟩) (hlen : bs.length + (partT l0 ⟨10, s, n, ks⟩ f).length ≤ 140737488355328) :
    Calls Tryz.prog 36 #[.pointer (some ⟨b, 0, none⟩), .int .i64 at_] w (Wrote base b A c l0 (bs ++ partT l0 ⟨10, s, n, ks⟩ f) w) := by
  obtain ⟨ad, A3, c3, rfl, e0, e1, e2, e3, hK⟩ := h.at_ at_ h0 h1 _ hp
  have H := Lib.hid h
  have HF := Lib.hid (hf.fit hK)
  have HL := Lib.hid hlen
  have hbl := h.isw.lt
  have ec := h.isw.c0
  clear h hf hlen hK hp
  go_enter Tryz.func36, Tryz.ntmps36
  go_wp2_with fail
  have hbw := below_alloc (Below.refl w.heap.size w) (.cells #[.int .i64 10, .string s, .int .i64 n, .slice A3 ks.length c3] 45)
  refine (term10 s n ks A3 c3 (H.out.frame hbw) (HF.out.next (hbw.mono H.out.size)) HL.out).mono ?_
  rintro e w6 ⟨rfl, i6, k6⟩
  go_wp2
  go_end0
  exact ⟨rfl, i6, (KW.of_below hbw H.out.size).trans k6⟩

set_option maxHeartbeats 2000000 in
set_option maxRecDepth 100000 in
theorem part11 (at_ : Int) (h0 : 0 ≤ at_) (h1 : at_ < (l0.length : Int)) (s : ByteArray) (n : Int) (ks : List Int) (hp : rd_T45 l0 at_ = ⟨11, s, n, ks⟩) (h : Rdy base b A c l0 bs w) (hf : FitP base b A c l0 f ⟨11, s, n, ks⟩) (hlen : bs.length + (partT l0 ⟨11, s, n, ks⟩ f).length ≤ 140737488355328) :
    Calls Tryz.prog 36 #[.pointer (some ⟨b, 0, none⟩), .int .i64 at_] w (Wrote base b A c l0 (bs ++ partT l0 ⟨11, s, n, ks⟩ f) w) := by
  obtain ⟨ad, A3, c3, rfl, e0, e1, e2, e3, hK⟩ := h.at_ at_ h0 h1 _ hp
  have H := Lib.hid h
  have HF := Lib.hid (hf.fit hK)
  have HL := Lib.hid hlen
  have hbl := h.isw.lt
  have ec := h.isw.c0
  clear h hf hlen hK hp
  go_enter Tryz.func36, Tryz.ntmps36
  go_wp2_with fail
  have hbw := below_alloc (Below.refl w.heap.size w) (.cells #[.int .i64 11, .string s, .int .i64 n, .slice A3 ks.length c3] 45)
  refine (term11 s n ks A3 c3 (H.out.frame hbw) (HF.out.next (hbw.mono H.out.size)) HL.out).mono ?_
  rintro e w6 ⟨rfl, i6, k6⟩
  go_wp2
  go_end0
  exact ⟨rfl, i6, (KW.of_below hbw H.out.size).trans k6⟩

set_option maxHeartbeats 2000000 in
set_option maxRecDepth 100000 in
theorem part12 (at_ : Int) (h0 : 0 ≤ at_) (h1 : at_ < (l0.length : Int)) (s : ByteArray) (n : Int) (ks : List Int) (hp : rd_T45 l0 at_ = ⟨12, s, n, ks⟩) (h : Rdy base b A c l0 bs w) (hf : FitP base b A c l0 f ⟨12, s, n, ks⟩) (hlen : bs.length + (partT l0 ⟨12, s, n, ks⟩ f).length ≤ 140737488355328) :
    Calls Tryz.prog 36 #[.pointer (some ⟨b, 0, none⟩), .int .i64 at_] w (Wrote base b A c l0 (bs ++ partT l0 ⟨12, s, n, ks⟩ f) w) := by
  obtain ⟨ad, A3, c3, rfl, e0, e1, e2, e3, hK⟩ := h.at_ at_ h0 h1 _ hp
  have H := Lib.hid h
  have HF := Lib.hid (hf.fit hK)
  have HL := Lib.hid hlen
  have hbl := h.isw.lt
  have ec := h.isw.c0
  clear h hf hlen hK hp
  go_enter Tryz.func36, Tryz.ntmps36
  go_wp2_with fail
  have hbw := below_alloc (Below.refl w.heap.size w) (.cells #[.int .i64 12, .string s, .int .i64 n, .slice A3 ks.length c3] 45)
  refine (term12 s n ks A3 c3 (H.out.frame hbw) (HF.out.next (hbw.mono H.out.size)) HL.out).mono ?_
  rintro e w6 ⟨rfl, i6, k6⟩
  go_wp2
  go_end0
  exact ⟨rfl, i6, (KW.of_below hbw H.out.size).trans k6⟩

set_option maxHeartbeats 2000000 in
set_option maxRecDepth 100000 in
theorem part13 (at_ : Int) (h0 : 0 ≤ at_) (h1 : at_ < (l0.length : Int)) (s : ByteArray) (n : Int) (ks : List Int) (hp : rd_T45 l0 at_ = ⟨13, s, n, ks⟩) (h : Rdy base b A c l0 bs w) (hf : FitP base b A c l0 f ⟨13, s, n, ks⟩) (hlen : bs.length + (partT l0 ⟨13, s, n, ks⟩ f).length ≤ 140737488355328) :
    Calls Tryz.prog 36 #[.pointer (some ⟨b, 0, none⟩), .int .i64 at_] w (Wrote base b A c l0 (bs ++ partT l0 ⟨13, s, n, ks⟩ f) w) := by
  obtain ⟨ad, A3, c3, rfl, e0, e1, e2, e3, hK⟩ := h.at_ at_ h0 h1 _ hp
  have H := Lib.hid h
  have HF := Lib.hid (hf.fit hK)
  have HL := Lib.hid hlen
  have hbl := h.isw.lt
  have ec := h.isw.c0
  clear h hf hlen hK hp
  go_enter Tryz.func36, Tryz.ntmps36
  go_wp2_with fail
  have hbw := below_alloc (Below.refl w.heap.size w) (.cells #[.int .i64 13, .string s, .int .i64 n, .slice A3 ks.length c3] 45)
  refine (term13 s n ks A3 c3 (H.out.frame hbw) (HF.out.next (hbw.mono H.out.size)) HL.out).mono ?_
  rintro e w6 ⟨rfl, i6, k6⟩
  go_wp2
  go_end0
  exact ⟨rfl, i6, (KW.of_below hbw H.out.size).trans k6⟩

set_option maxHeartbeats 2000000 in
set_option maxRecDepth 100000 in
theorem part14 (at_ : Int) (h0 : 0 ≤ at_) (h1 : at_ < (l0.length : Int)) (s : ByteArray) (n : Int) (ks : List Int) (hp : rd_T45 l0 at_ = ⟨14, s, n, ks⟩) (h : Rdy base b A c l0 bs w) (hf : FitP base b A c l0 f ⟨14, s, n, ks⟩) (hlen : bs.length + (partT l0 ⟨14, s, n, ks⟩ f).length ≤ 140737488355328) :
    Calls Tryz.prog 36 #[.pointer (some ⟨b, 0, none⟩), .int .i64 at_] w (Wrote base b A c l0 (bs ++ partT l0 ⟨14, s, n, ks⟩ f) w) := by
  obtain ⟨ad, A3, c3, rfl, e0, e1, e2, e3, hK⟩ := h.at_ at_ h0 h1 _ hp
  have H := Lib.hid h
  have HF := Lib.hid (hf.fit hK)
  have HL := Lib.hid hlen
  have hbl := h.isw.lt
  have ec := h.isw.c0
  clear h hf hlen hK hp
  go_enter Tryz.func36, Tryz.ntmps36
  go_wp2_with fail
  have hbw := below_alloc (Below.refl w.heap.size w) (.cells #[.int .i64 14, .string s, .int .i64 n, .slice A3 ks.length c3] 45)
  refine (term14 s n ks A3 c3 (H.out.frame hbw) (HF.out.next (hbw.mono H.out.size)) HL.out).mono ?_
  rintro e w6 ⟨rfl, i6, k6⟩
  go_wp2
  go_end0
  exact ⟨rfl, i6, (KW.of_below hbw H.out.size).trans k6⟩

set_option maxHeartbeats 2000000 in
set_option maxRecDepth 100000 in
theorem part15 (at_ : Int) (h0 : 0 ≤ at_) (h1 : at_ < (l0.length : Int)) (s : ByteArray) (n : Int) (ks : List Int) (hp : rd_T45 l0 at_ = ⟨15, s, n, ks⟩) (h : Rdy base b A c l0 bs w) (hf : FitP base b A c l0 f ⟨15, s, n, ks⟩) (hlen : bs.length + (partT l0 ⟨15, s, n, ks⟩ f).length ≤ 140737488355328) :
    Calls Tryz.prog 36 #[.pointer (some ⟨b, 0, none⟩), .int .i64 at_] w (Wrote base b A c l0 (bs ++ partT l0 ⟨15, s, n, ks⟩ f) w) := by
  obtain ⟨ad, A3, c3, rfl, e0, e1, e2, e3, hK⟩ := h.at_ at_ h0 h1 _ hp
  have H := Lib.hid h
  have HF := Lib.hid (hf.fit hK)
  have HL := Lib.hid hlen
  have hbl := h.isw.lt
  have ec := h.isw.c0
  clear h hf hlen hK hp
  go_enter Tryz.func36, Tryz.ntmps36
  go_wp2_with fail
  have hbw := below_alloc (Below.refl w.heap.size w) (.cells #[.int .i64 15, .string s, .int .i64 n, .slice A3 ks.length c3] 45)
  refine (term15 s n ks A3 c3 (H.out.frame hbw) (HF.out.next (hbw.mono H.out.size)) HL.out).mono ?_
  rintro e w6 ⟨rfl, i6, k6⟩
  go_wp2
  go_end0
  exact ⟨rfl, i6, (KW.of_below hbw H.out.size).trans k6⟩

set_option maxHeartbeats 2000000 in
set_option maxRecDepth 100000 in
theorem part16 (at_ : Int) (h0 : 0 ≤ at_) (h1 : at_ < (l0.length : Int)) (s : ByteArray) (n : Int) (ks : List Int) (hp : rd_T45 l0 at_ = ⟨16, s, n, ks⟩) (h : Rdy base b A c l0 bs w) (hf : FitP base b A c l0 f ⟨16, s, n, ks⟩) (hlen : bs.length + (partT l0 ⟨16, s, n, ks⟩ f).length ≤ 140737488355328) :
    Calls Tryz.prog 36 #[.pointer (some ⟨b, 0, none⟩), .int .i64 at_] w (Wrote base b A c l0 (bs ++ partT l0 ⟨16, s, n, ks⟩ f) w) := by
  obtain ⟨ad, A3, c3, rfl, e0, e1, e2, e3, hK⟩ := h.at_ at_ h0 h1 _ hp
  have H := Lib.hid h
  have HF := Lib.hid (hf.fit hK)
  have HL := Lib.hid hlen
  have hbl := h.isw.lt
  have ec := h.isw.c0
  clear h hf hlen hK hp
  go_enter Tryz.func36, Tryz.ntmps36
  go_wp2_with fail
  have hbw := below_alloc (Below.refl w.heap.size w) (.cells #[.int .i64 16, .string s, .int .i64 n, .slice A3 ks.length c3] 45)
  refine (term16 s n ks A3 c3 (H.out.frame hbw) (HF.out.next (hbw.mono H.out.size)) HL.out).mono ?_
  rintro e w6 ⟨rfl, i6, k6⟩
  go_wp2
  go_end0
  exact ⟨rfl, i6, (KW.of_below hbw H.out.size).trans k6⟩

set_option maxHeartbeats 2000000 in
set_option maxRecDepth 100000 in
theorem part17 (at_ : Int) (h0 : 0 ≤ at_) (h1 : at_ < (l0.length : Int)) (s : ByteArray) (n : Int) (ks : List Int) (hp : rd_T45 l0 at_ = ⟨17, s, n, ks⟩) (h : Rdy base b A c l0 bs w) (hf : FitP base b A c l0 f ⟨17, s, n, ks⟩) (hlen : bs.length + (partT l0 ⟨17, s, n, ks⟩ f).length ≤ 140737488355328) :
    Calls Tryz.prog 36 #[.pointer (some ⟨b, 0, none⟩), .int .i64 at_] w (Wrote base b A c l0 (bs ++ partT l0 ⟨17, s, n, ks⟩ f) w) := by
  obtain ⟨ad, A3, c3, rfl, e0, e1, e2, e3, hK⟩ := h.at_ at_ h0 h1 _ hp
  have H := Lib.hid h
  have HF := Lib.hid (hf.fit hK)
  have HL := Lib.hid hlen
  have hbl := h.isw.lt
  have ec := h.isw.c0
  clear h hf hlen hK hp
  go_enter Tryz.func36, Tryz.ntmps36
  go_wp2_with fail
  have hbw := below_alloc (Below.refl w.heap.size w) (.cells #[.int .i64 17, .string s, .int .i64 n, .slice A3 ks.length c3] 45)
  refine (term17 s n ks A3 c3 (H.out.frame hbw) (HF.out.next (hbw.mono H.out.size)) HL.out).mono ?_
  rintro e w6 ⟨rfl, i6, k6⟩
  go_wp2
  go_end0
  exact ⟨rfl, i6, (KW.of_below hbw H.out.size).trans k6⟩

set_option maxHeartbeats 2000000 in
set_option maxRecDepth 100000 in
theorem part18 (at_ : Int) (h0 : 0 ≤ at_) (h1 : at_ < (l0.length : Int)) (s : ByteArray) (n : Int) (ks : List Int) (hp : rd_T45 l0 at_ = ⟨18, s, n, ks⟩) (h : Rdy base b A c l0 bs w) (hf : FitP base b A c l0 f ⟨18, s, n, ks⟩) (hlen : bs.length + (partT l0 ⟨18, s, n, ks⟩ f).length ≤ 140737488355328) :
    Calls Tryz.prog 36 #[.pointer (some ⟨b, 0, none⟩), .int .i64 at_] w (Wrote base b A c l0 (bs ++ partT l0 ⟨18, s, n, ks⟩ f) w) := by
  obtain ⟨ad, A3, c3, rfl, e0, e1, e2, e3, hK⟩ := h.at_ at_ h0 h1 _ hp
  have H := Lib.hid h
  have HF := Lib.hid (hf.fit hK)
  have HL := Lib.hid hlen
  have hbl := h.isw.lt
  have ec := h.isw.c0
  clear h hf hlen hK hp
  go_enter Tryz.func36, Tryz.ntmps36
  go_wp2_with fail
  have hbw := below_alloc (Below.refl w.heap.size w) (.cells #[.int .i64 18, .string s, .int .i64 n, .slice A3 ks.length c3] 45)
  refine (term18 s n ks A3 c3 (H.out.frame hbw) (HF.out.next (hbw.mono H.out.size)) HL.out).mono ?_
  rintro e w6 ⟨rfl, i6, k6⟩
  go_wp2
  go_end0
  exact ⟨rfl, i6, (KW.of_below hbw H.out.size).trans k6⟩

set_option maxHeartbeats 2000000 in
set_option maxRecDepth 100000 in
theorem part19 (at_ : Int) (h0 : 0 ≤ at_) (h1 : at_ < (l0.length : Int)) (s : ByteArray) (n : Int) (ks : List Int) (hp : rd_T45 l0 at_ = ⟨19, s, n, ks⟩) (h : Rdy base b A c l0 bs w) (hf : FitP base b A c l0 f ⟨19, s, n, ks⟩) (hlen : bs.length + (partT l0 ⟨19, s, n, ks⟩ f).length ≤ 140737488355328) :
    Calls Tryz.prog 36 #[.pointer (some ⟨b, 0, none⟩), .int .i64 at_] w (Wrote base b A c l0 (bs ++ partT l0 ⟨19, s, n, ks⟩ f) w) := by
  obtain ⟨ad, A3, c3, rfl, e0, e1, e2, e3, hK⟩ := h.at_ at_ h0 h1 _ hp
  have H := Lib.hid h
  have HF := Lib.hid (hf.fit hK)
  have HL := Lib.hid hlen
  have hbl := h.isw.lt
  have ec := h.isw.c0
  clear h hf hlen hK hp
  go_enter Tryz.func36, Tryz.ntmps36
  go_wp2_with fail
  have hbw := below_alloc (Below.refl w.heap.size w) (.cells #[.int .i64 19, .string s, .int .i64 n, .slice A3 ks.length c3] 45)
  refine (term19 s n ks A3 c3 (H.out.frame hbw) (HF.out.next (hbw.mono H.out.size)) HL.out).mono ?_
  rintro e w6 ⟨rfl, i6, k6⟩
  go_wp2
  go_end0
  exact ⟨rfl, i6, (KW.of_below hbw H.out.size).trans k6⟩

set_option maxHeartbeats 2000000 in
set_option maxRecDepth 100000 in
theorem part6_1 (at_ : Int) (h0 : 0 ≤ at_) (h1 : at_ < (l0.length : Int)) (s : ByteArray) (ks : List Int) (hp : rd_T45 l0 at_ = ⟨6, s, 1, ks⟩) (h : Rdy base b A c l0 bs w) (hf : FitP base b A c l0 f ⟨6, s, 1, ks⟩) (hlen : bs.length + (partT l0 ⟨6, s, 1, ks⟩ f).length ≤ 140737488355328) :
    Calls Tryz.prog 36 #[.pointer (some ⟨b, 0, none⟩), .int .i64 at_] w (Wrote base b A c l0 (bs ++ partT l0 ⟨6, s, 1, ks⟩ f) w) := by
  obtain ⟨ad, A3, c3, rfl, e0, e1, e2, e3, hK⟩ := h.at_ at_ h0 h1 _ hp
  have H := Lib.hid h
  have HF := Lib.hid (hf.fit hK)
  have HL := Lib.hid hlen
  have hbl := h.isw.lt
  have ec := h.isw.c0
  clear h hf hlen hK hp
  have HB : Hid (partT l0 ⟨6, s, 1, ks⟩ f = joinT l0 ⟨6, s, 1, ks⟩ ([32, 61, 61, 32] : Bs) f ks) := Lib.hid rfl
  have HL2 : Hid (bs.length + (joinT l0 ⟨6, s, 1, ks⟩ ([32, 61, 61, 32] : Bs) f ks).length ≤ 140737488355328) := Lib.hid (by rw [← HB.out]; exact HL.out)
  go_enter Tryz.func36, Tryz.ntmps36
  go_wp2
  go_region_with (first | (go_at_call 56; refine (cmpMark_c _ _).mono ?_; rintro e w1 ⟨rfl, nd, rfl⟩) | (go_at_call 55; go_must (refine (Fit.list (HF.out.next (Below.mono ?hbw H.out.size)) (H.out.frame ?hbw) c3 ⟨#[32, 61, 61, 32]⟩ HL2.out).mono ?_); (case hbw => repeat (first | exact Below.refl _ _ | apply below_alloc | apply pw_below_drewN | apply below_drew)); rintro e w6 ⟨rfl, i6, k6⟩))
  all_goals
    simp only [Exit.inBlock]
    go_end0
    have hb := HB.out
    refine ⟨rfl, ?_, (KW.of_below ?_ H.out.size).trans k6⟩
    · rw [hb]; exact i6
    · repeat (first | exact Below.refl _ _ | apply below_alloc | apply pw_below_drewN | apply below_drew)

set_option maxHeartbeats 2000000 in
set_option maxRecDepth 100000 in
theorem part6_2 (at_ : Int) (h0 : 0 ≤ at_) (h1 : at_ < (l0.length : Int)) (s : ByteArray) (ks : List Int) (hp : rd_T45 l0 at_ = ⟨6, s, 2, ks⟩) (h : Rdy base b A c l0 bs w) (hf : FitP base b A c l0 f ⟨6, s, 2, ks⟩) (hlen : bs.length + (partT l0 ⟨6, s, 2, ks⟩ f).length ≤ 140737488355328) :
    Calls Tryz.prog 36 #[.pointer (some ⟨b, 0, none⟩), .int .i64 at_] w (Wrote base b A c l0 (bs ++ partT l0 ⟨6, s, 2, ks⟩ f) w) := by
  obtain ⟨ad, A3, c3, rfl, e0, e1, e2, e3, hK⟩ := h.at_ at_ h0 h1 _ hp
  have H := Lib.hid h
  have HF := Lib.hid (hf.fit hK)
  have HL := Lib.hid hlen
  have hbl := h.isw.lt
  have ec := h.isw.c0
  clear h hf hlen hK hp
  have HB : Hid (partT l0 ⟨6, s, 2, ks⟩ f = joinT l0 ⟨6, s, 2, ks⟩ ([32, 33, 61, 32] : Bs) f ks) := Lib.hid rfl
  have HL2 : Hid (bs.length + (joinT l0 ⟨6, s, 2, ks⟩ ([32, 33, 61, 32] : Bs) f ks).length ≤ 140737488355328) := Lib.hid (by rw [← HB.out]; exact HL.out)
  go_enter Tryz.func36, Tryz.ntmps36
  go_wp2
  go_region_with (first | (go_at_call 56; refine (cmpMark_c _ _).mono ?_; rintro e w1 ⟨rfl, nd, rfl⟩) | (go_at_call 55; go_must (refine (Fit.list (HF.out.next (Below.mono ?hbw H.out.size)) (H.out.frame ?hbw) c3 ⟨#[32, 33, 61, 32]⟩ HL2.out).mono ?_); (case hbw => repeat (first | exact Below.refl _ _ | apply below_alloc | apply pw_below_drewN | apply below_drew)); rintro e w6 ⟨rfl, i6, k6⟩))
  all_goals
    simp only [Exit.inBlock]
    go_end0
    have hb := HB.out
    refine ⟨rfl, ?_, (KW.of_below ?_ H.out.size).trans k6⟩
    · rw [hb]; exact i6
    · repeat (first | exact Below.refl _ _ | apply below_alloc | apply pw_below_drewN | apply below_drew)

set_option maxHeartbeats 2000000 in
set_option maxRecDepth 100000 in
theorem part6_3 (at_ : Int) (h0 : 0 ≤ at_) (h1 : at_ < (l0.length : Int)) (s : ByteArray) (ks : List Int) (hp : rd_T45 l0 at_ = ⟨6, s, 3, ks⟩) (h : Rdy base b A c l0 bs w) (hf : FitP base b A c l0 f ⟨6, s, 3, ks⟩) (hlen : bs.length + (partT l0 ⟨6, s, 3, ks⟩ f).length ≤ 140737488355328) :
    Calls Tryz.prog 36 #[.pointer (some ⟨b, 0, none⟩), .int .i64 at_] w (Wrote base b A c l0 (bs ++ partT l0 ⟨6, s, 3, ks⟩ f) w) := by
  obtain ⟨ad, A3, c3, rfl, e0, e1, e2, e3, hK⟩ := h.at_ at_ h0 h1 _ hp
  have H := Lib.hid h
  have HF := Lib.hid (hf.fit hK)
  have HL := Lib.hid hlen
  have hbl := h.isw.lt
  have ec := h.isw.c0
  clear h hf hlen hK hp
  have HB : Hid (partT l0 ⟨6, s, 3, ks⟩ f = joinT l0 ⟨6, s, 3, ks⟩ ([32, 60, 32] : Bs) f ks) := Lib.hid rfl
  have HL2 : Hid (bs.length + (joinT l0 ⟨6, s, 3, ks⟩ ([32, 60, 32] : Bs) f ks).length ≤ 140737488355328) := Lib.hid (by rw [← HB.out]; exact HL.out)
  go_enter Tryz.func36, Tryz.ntmps36
  go_wp2
  go_region_with (first | (go_at_call 56; refine (cmpMark_c _ _).mono ?_; rintro e w1 ⟨rfl, nd, rfl⟩) | (go_at_call 55; go_must (refine (Fit.list (HF.out.next (Below.mono ?hbw H.out.size)) (H.out.frame ?hbw) c3 ⟨#[32, 60, 32]⟩ HL2.out).mono ?_); (case hbw => repeat (first | exact Below.refl _ _ | apply below_alloc | apply pw_below_drewN | apply below_drew)); rintro e w6 ⟨rfl, i6, k6⟩))
  all_goals
    simp only [Exit.inBlock]
    go_end0
    have hb := HB.out
    refine ⟨rfl, ?_, (KW.of_below ?_ H.out.size).trans k6⟩
    · rw [hb]; exact i6
    · repeat (first | exact Below.refl _ _ | apply below_alloc | apply pw_below_drewN | apply below_drew)

set_option maxHeartbeats 2000000 in
set_option maxRecDepth 100000 in
theorem part6_4 (at_ : Int) (h0 : 0 ≤ at_) (h1 : at_ < (l0.length : Int)) (s : ByteArray) (ks : List Int) (hp : rd_T45 l0 at_ = ⟨6, s, 4, ks⟩) (h : Rdy base b A c l0 bs w) (hf : FitP base b A c l0 f ⟨6, s, 4, ks⟩) (hlen : bs.length + (partT l0 ⟨6, s, 4, ks⟩ f).length ≤ 140737488355328) :
    Calls Tryz.prog 36 #[.pointer (some ⟨b, 0, none⟩), .int .i64 at_] w (Wrote base b A c l0 (bs ++ partT l0 ⟨6, s, 4, ks⟩ f) w) := by
  obtain ⟨ad, A3, c3, rfl, e0, e1, e2, e3, hK⟩ := h.at_ at_ h0 h1 _ hp
  have H := Lib.hid h
  have HF := Lib.hid (hf.fit hK)
  have HL := Lib.hid hlen
  have hbl := h.isw.lt
  have ec := h.isw.c0
  clear h hf hlen hK hp
  have HB : Hid (partT l0 ⟨6, s, 4, ks⟩ f = joinT l0 ⟨6, s, 4, ks⟩ ([32, 60, 61, 32] : Bs) f ks) := Lib.hid rfl
  have HL2 : Hid (bs.length + (joinT l0 ⟨6, s, 4, ks⟩ ([32, 60, 61, 32] : Bs) f ks).length ≤ 140737488355328) := Lib.hid (by rw [← HB.out]; exact HL.out)
  go_enter Tryz.func36, Tryz.ntmps36
  go_wp2
  go_region_with (first | (go_at_call 56; refine (cmpMark_c _ _).mono ?_; rintro e w1 ⟨rfl, nd, rfl⟩) | (go_at_call 55; go_must (refine (Fit.list (HF.out.next (Below.mono ?hbw H.out.size)) (H.out.frame ?hbw) c3 ⟨#[32, 60, 61, 32]⟩ HL2.out).mono ?_); (case hbw => repeat (first | exact Below.refl _ _ | apply below_alloc | apply pw_below_drewN | apply below_drew)); rintro e w6 ⟨rfl, i6, k6⟩))
  all_goals
    simp only [Exit.inBlock]
    go_end0
    have hb := HB.out
    refine ⟨rfl, ?_, (KW.of_below ?_ H.out.size).trans k6⟩
    · rw [hb]; exact i6
    · repeat (first | exact Below.refl _ _ | apply below_alloc | apply pw_below_drewN | apply below_drew)

set_option maxHeartbeats 2000000 in
set_option maxRecDepth 100000 in
theorem part6_5 (at_ : Int) (h0 : 0 ≤ at_) (h1 : at_ < (l0.length : Int)) (s : ByteArray) (ks : List Int) (hp : rd_T45 l0 at_ = ⟨6, s, 5, ks⟩) (h : Rdy base b A c l0 bs w) (hf : FitP base b A c l0 f ⟨6, s, 5, ks⟩) (hlen : bs.length + (partT l0 ⟨6, s, 5, ks⟩ f).length ≤ 140737488355328) :
    Calls Tryz.prog 36 #[.pointer (some ⟨b, 0, none⟩), .int .i64 at_] w (Wrote base b A c l0 (bs ++ partT l0 ⟨6, s, 5, ks⟩ f) w) := by
  obtain ⟨ad, A3, c3, rfl, e0, e1, e2, e3, hK⟩ := h.at_ at_ h0 h1 _ hp
  have H := Lib.hid h
  have HF := Lib.hid (hf.fit hK)
  have HL := Lib.hid hlen
  have hbl := h.isw.lt
  have ec := h.isw.c0
  clear h hf hlen hK hp
  have HB : Hid (partT l0 ⟨6, s, 5, ks⟩ f = joinT l0 ⟨6, s, 5, ks⟩ ([32, 62, 32] : Bs) f ks) := Lib.hid rfl
  have HL2 : Hid (bs.length + (joinT l0 ⟨6, s, 5, ks⟩ ([32, 62, 32] : Bs) f ks).length ≤ 140737488355328) := Lib.hid (by rw [← HB.out]; exact HL.out)
  go_enter Tryz.func36, Tryz.ntmps36
  go_wp2
  go_region_with (first | (go_at_call 56; refine (cmpMark_c _ _).mono ?_; rintro e w1 ⟨rfl, nd, rfl⟩) | (go_at_call 55; go_must (refine (Fit.list (HF.out.next (Below.mono ?hbw H.out.size)) (H.out.frame ?hbw) c3 ⟨#[32, 62, 32]⟩ HL2.out).mono ?_); (case hbw => repeat (first | exact Below.refl _ _ | apply below_alloc | apply pw_below_drewN | apply below_drew)); rintro e w6 ⟨rfl, i6, k6⟩))
  all_goals
    simp only [Exit.inBlock]
    go_end0
    have hb := HB.out
    refine ⟨rfl, ?_, (KW.of_below ?_ H.out.size).trans k6⟩
    · rw [hb]; exact i6
    · repeat (first | exact Below.refl _ _ | apply below_alloc | apply pw_below_drewN | apply below_drew)

set_option maxHeartbeats 2000000 in
set_option maxRecDepth 100000 in
theorem part6_6 (at_ : Int) (h0 : 0 ≤ at_) (h1 : at_ < (l0.length : Int)) (s : ByteArray) (ks : List Int) (hp : rd_T45 l0 at_ = ⟨6, s, 6, ks⟩) (h : Rdy base b A c l0 bs w) (hf : FitP base b A c l0 f ⟨6, s, 6, ks⟩) (hlen : bs.length + (partT l0 ⟨6, s, 6, ks⟩ f).length ≤ 140737488355328) :
    Calls Tryz.prog 36 #[.pointer (some ⟨b, 0, none⟩), .int .i64 at_] w (Wrote base b A c l0 (bs ++ partT l0 ⟨6, s, 6, ks⟩ f) w) := by
  obtain ⟨ad, A3, c3, rfl, e0, e1, e2, e3, hK⟩ := h.at_ at_ h0 h1 _ hp
  have H := Lib.hid h
  have HF := Lib.hid (hf.fit hK)
  have HL := Lib.hid hlen
  have hbl := h.isw.lt
  have ec := h.isw.c0
  clear h hf hlen hK hp
  have HB : Hid (partT l0 ⟨6, s, 6, ks⟩ f = joinT l0 ⟨6, s, 6, ks⟩ ([32, 62, 61, 32] : Bs) f ks) := Lib.hid rfl
  have HL2 : Hid (bs.length + (joinT l0 ⟨6, s, 6, ks⟩ ([32, 62, 61, 32] : Bs) f ks).length ≤ 140737488355328) := Lib.hid (by rw [← HB.out]; exact HL.out)
  go_enter Tryz.func36, Tryz.ntmps36
  go_wp2
  go_region_with (first | (go_at_call 56; refine (cmpMark_c _ _).mono ?_; rintro e w1 ⟨rfl, nd, rfl⟩) | (go_at_call 55; go_must (refine (Fit.list (HF.out.next (Below.mono ?hbw H.out.size)) (H.out.frame ?hbw) c3 ⟨#[32, 62, 61, 32]⟩ HL2.out).mono ?_); (case hbw => repeat (first | exact Below.refl _ _ | apply below_alloc | apply pw_below_drewN | apply below_drew)); rintro e w6 ⟨rfl, i6, k6⟩))
  all_goals
    simp only [Exit.inBlock]
    go_end0
    have hb := HB.out
    refine ⟨rfl, ?_, (KW.of_below ?_ H.out.size).trans k6⟩
    · rw [hb]; exact i6
    · repeat (first | exact Below.refl _ _ | apply below_alloc | apply pw_below_drewN | apply below_drew)

/-- The part is of the kinds and numbers that a valid tree has. -/
def fits (p : Pt) : Prop := 1 ≤ p.f0 ∧ p.f0 ≤ 20 ∧ (p.f0 = 6 → 1 ≤ p.f2 ∧ p.f2 ≤ 6) ∧ (p.f0 = 7 → p.f2 = 0 ∨ p.f2 = 1)
theorem part_case (at_ : Int) (h0 : 0 ≤ at_) (h1 : at_ < (l0.length : Int)) (p : Pt) (hp : rd_T45 l0 at_ = p) (hfi : fits p) (h : Rdy base b A c l0 bs w) (hf : FitP base b A c l0 f p) (hlen : bs.length + (partT l0 p f).length ≤ 140737488355328) :
    Calls Tryz.prog 36 #[.pointer (some ⟨b, 0, none⟩), .int .i64 at_] w (Wrote base b A c l0 (bs ++ partT l0 p f) w) := by
  obtain ⟨k, s, n, ks⟩ := p
  obtain ⟨f1, f2, f3, f4⟩ := hfi
  simp only at f1 f2 f3 f4
  have hk : k = 1 ∨ k = 2 ∨ k = 3 ∨ k = 4 ∨ k = 5 ∨ k = 6 ∨ k = 7 ∨ k = 8 ∨ k = 9 ∨ k = 10 ∨ k = 11 ∨ k = 12 ∨ k = 13 ∨ k = 14 ∨ k = 15 ∨ k = 16 ∨ k = 17 ∨ k = 18 ∨ k = 19 ∨ k = 20 := by omega
  rcases hk with rfl | rfl | rfl | rfl | rfl | rfl | rfl | rfl | rfl | rfl | rfl | rfl | rfl | rfl | rfl | rfl | rfl | rfl | rfl | rfl
  · exact part1 at_ h0 h1 s n ks hp h hf hlen
  · exact part2 at_ h0 h1 s n ks hp h hf hlen
  · exact part3 at_ h0 h1 s n ks hp h hf hlen
  · exact part4 at_ h0 h1 s n ks hp h hf hlen
  · exact part5 at_ h0 h1 s n ks hp h hf hlen
  · have hn : n = 1 ∨ n = 2 ∨ n = 3 ∨ n = 4 ∨ n = 5 ∨ n = 6 := by have := f3 rfl; omega
    rcases hn with rfl | rfl | rfl | rfl | rfl | rfl
    · exact part6_1 at_ h0 h1 s ks hp h hf hlen
    · exact part6_2 at_ h0 h1 s ks hp h hf hlen
    · exact part6_3 at_ h0 h1 s ks hp h hf hlen
    · exact part6_4 at_ h0 h1 s ks hp h hf hlen
    · exact part6_5 at_ h0 h1 s ks hp h hf hlen
    · exact part6_6 at_ h0 h1 s ks hp h hf hlen
  · rcases f4 rfl with rfl | rfl
    · exact part7_0 at_ h0 h1 s ks hp h hf hlen
    · exact part7_1 at_ h0 h1 s ks hp h hf hlen
  · exact part8 at_ h0 h1 s n ks hp h hf hlen
  · exact part9 at_ h0 h1 s n ks hp h hf hlen
  · exact part10 at_ h0 h1 s n ks hp h hf hlen
  · exact part11 at_ h0 h1 s n ks hp h hf hlen
  · exact part12 at_ h0 h1 s n ks hp h hf hlen
  · exact part13 at_ h0 h1 s n ks hp h hf hlen
  · exact part14 at_ h0 h1 s n ks hp h hf hlen
  · exact part15 at_ h0 h1 s n ks hp h hf hlen
  · exact part16 at_ h0 h1 s n ks hp h hf hlen
  · exact part17 at_ h0 h1 s n ks hp h hf hlen
  · exact part18 at_ h0 h1 s n ks hp h hf hlen
  · exact part19 at_ h0 h1 s n ks hp h hf hlen
  · exact part20 at_ h0 h1 s n ks hp h hf hlen

end Go.Proofs.YtghhnnbbjlipcaaGreatDoor.H
