/-
  The walk of over.
-/
import Derived.Test.YteeojceloljcbaaDoorOver
set_option linter.unusedVariables false
set_option linter.unusedSimpArgs false
namespace Go.Proofs.YteeojceloljcbaaDoor.H
open Go.RowKit Go.Proofs.YteeojceloljcbaaDoorW.PrintWords Go.Proofs.YteeojceloljcbaaDoorW.PrintLast Go.Proofs.YteeojceloljcbaaDoor.P

theorem textSpec_cases (l0 : List Pt) (h : validSpec l0 = none) : textSpec l0 = ([], some (131, -1)) ∨ (textSpec l0 = (wholeT l0, none) ∧ (wholeT l0).length ≤ 4096) := by
  unfold textSpec
  rw [h]
  simp only
  by_cases hl : 4096 < (wholeT l0).length
  · rw [if_pos hl]; exact .inl rfl
  · rw [if_neg hl]; exact .inr ⟨rfl, by omega⟩
theorem ov_start {w : World} {A : Option Addr} {c : Nat} {l0 : List Pt} {A1 : Option Addr} {c1 n1 : Nat} {A2 : Option Addr} {c2 n2 : Nat} (h : Law w A c l0) (h1 : TreeAt w A1 c1 (hungL l0 3 nil_)) (h2 : TreeAt w A2 c2 (hungL l0 8 zone)) (e1 : n1 = (hungL l0 3 nil_).length) (e2 : n2 = (hungL l0 8 zone).length) :
    OvAt w (((w.alloc (.cells #[.slice A l0.length c] 24)).alloc (.cells #[.slice A1 n1 c1] 24)).alloc (.cells #[.slice A2 n2 c2] 24)) A c l0 A1 c1 n1 A2 c2 n2 := by
  have hb : Below w.heap.size w (((w.alloc (.cells #[.slice A l0.length c] 24)).alloc (.cells #[.slice A1 n1 c1] 24)).alloc (.cells #[.slice A2 n2 c2] 24)) := (((Below.refl _ _).alloc (Nat.le_refl _) _).alloc (by simp) _).alloc (by simp; omega) _
  exact ⟨hb, h.below hb, h1.below hb, h2.below hb, (Below.heap_alloc _ _ _ (by simp; omega)).trans ((Below.heap_alloc _ _ _ (by simp)).trans (Go.heap_alloc_new _ _)), (Below.heap_alloc _ _ _ (by simp)).trans (Go.heap_alloc2_new _ _ _), by have := Go.heap_alloc_new ((w.alloc (.cells #[.slice A l0.length c] 24)).alloc (.cells #[.slice A1 n1 c1] 24)) (.cells #[.slice A2 n2 c2] 24); simpa using this, e1, e2⟩

/-- What the texts and nests are. -/
structure OvF (l0 : List Pt) (n : Int) (more : Int) (t tn tm : Bs) : Prop where
  n0 : 0 ≤ n ∧ n < 32
  len : t.length ≤ 4096
  etn : tn = [110, 101, 97, 114, 40, 34, 122, 111, 92, 34, 110, 101, 34, 44, 32] ++ t ++ [41]
  near1 : (nestOf (hungL l0 8 zone), validSpec (hungL l0 8 zone)) = (n + 1, none)
  near2 : t.length + 16 ≤ 4096 → textSpec (hungL l0 8 zone) = (tn, none)
  etm : tm = if more = 2 then [33, 40] ++ t ++ [41] else 33 :: t
  not0 : 32 < n + more → validSpec (hungL l0 3 nil_) ≠ none
  not1 : n + more ≤ 32 → (nestOf (hungL l0 3 nil_), validSpec (hungL l0 3 nil_)) = (n + more, none)
  not2 : n + more ≤ 32 → t.length + 3 ≤ 4096 → textSpec (hungL l0 3 nil_) = (tm, none)
theorem ovF (l0 : List Pt) (hv : OvL l0) (ht : (wholeT l0).length ≤ 4096) : ∃ tn tm, OvF l0 (nestOf l0) (if rootB l0 then 2 else 1) (wholeT l0) tn tm := by
  have hN := hung_valid l0 8 zone hv.ok hv.few (hangs_near l0 hv.ok)
  have hM := hung_valid l0 3 nil_ hv.ok hv.few (hangs_not l0 hv.ok)
  rw [more_near] at hN
  rw [more_not] at hM
  have h1 := hv.room
  have h2 := hN.1 (by omega)
  have htn := text_near l0 hv.ok h2.1
  refine ⟨wholeT (hungL l0 8 zone), if rootB l0 then [33, 40] ++ wholeT l0 ++ [41] else 33 :: wholeT l0, ⟨hv.nlo, h1⟩, ht, htn, by rw [h2.1, h2.2], fun hl => textSpec_ok _ h2.1 (by rw [htn]; simp; omega), ?_, hM.2, fun hle => by rw [(hM.1 hle).1, (hM.1 hle).2], ?_⟩
  · cases rootB l0 <;> simp
  · intro hle hl
    have h3 := hM.1 hle
    have htm := text_not l0 hv.ok h3.1
    rw [← htm]
    refine textSpec_ok _ h3.1 ?_
    rw [htm]; split <;> simp <;> omega

set_option maxHeartbeats 8000000 in
set_option maxRecDepth 100000 in
theorem over_err (A : Option Addr) (c : Nat) (l0 : List Pt) (A1 : Option Addr) (c1 n1 : Nat) (A2 : Option Addr) (c2 n2 : Nat) (n more : Int) (w : World) (h : Law w A c l0) (h1 : TreeAt w A1 c1 (hungL l0 3 nil_)) (h2 : TreeAt w A2 c2 (hungL l0 8 zone)) (e1 : n1 = (hungL l0 3 nil_).length) (e2 : n2 = (hungL l0 8 zone).length)
    (hts : textSpec l0 = ([], some (131, -1))) :
    Calls Tryd.prog 18 #[.agg #[.slice A l0.length c], .agg #[.slice A1 n1 c1], .agg #[.slice A2 n2 c2], .int .i64 n, .int .i64 more] w fun e w' => e = .returned (.bool true) ∧ Below w.heap.size w w' := by
  have O0 := Lib.hid (ov_start h h1 h2 e1 e2)
  have CC := Lib.hid (copy_c A c l0)
  have ST := Lib.hid (fun W A' c' (h : Law W A' c' l0) => show_text A' c' l0 W h.tree h.cap h.tab h.big)
  unfold TextAns at ST
  rw [hts] at ST
  clear hts h h1 h2 e1 e2
  go_enter Tryd.func18, Tryd.ntmps18
  have c0 := O0.out.x0
  go_wp2_with fail
  refine (CC.out _ O0.out.law).mono ?_
  rintro e w1 ⟨A', c', rfl, hL1, hB⟩
  have O1 := Lib.hid (O0.out.next hB)
  have L1 := Lib.hid hL1
  clear hB hL1
  go_wp2_with fail
  refine (ST.out _ _ _ L1.out).mono ?_
  rintro e w2 ⟨v, rfl, hE, hB⟩
  obtain ⟨b, rfl, hrest⟩ := hE
  have HE : Hid (ErrIs w2 (.iface 74 (.pointer (some ⟨b, 0, none⟩))) (some (131, -1))) := Lib.hid ⟨b, rfl, hrest⟩
  have O2 := Lib.hid (O1.out.next hB)
  clear hB hrest
  go_wp2_with fail
  refine (refusal_any _ _ 131 (-1) _ HE.out true rfl).mono ?_
  rintro e w3 ⟨rfl, hB⟩
  have O3 := Lib.hid (O2.out.next hB)
  clear hB
  go_wp2
  go_ret
  exact ⟨rfl, O3.out.bel⟩

set_option maxHeartbeats 8000000 in
set_option maxRecDepth 100000 in
theorem over_ok (A : Option Addr) (c : Nat) (l0 : List Pt) (A1 : Option Addr) (c1 n1 : Nat) (A2 : Option Addr) (c2 n2 : Nat) (n more : Int) (t tn tm : Bs) (w : World) (h : Law w A c l0) (h1 : TreeAt w A1 c1 (hungL l0 3 nil_)) (h2 : TreeAt w A2 c2 (hungL l0 8 zone)) (e1 : n1 = (hungL l0 3 nil_).length) (e2 : n2 = (hungL l0 8 zone).length)
    (hts : textSpec l0 = (t, none)) (hF : OvF l0 n more t tn tm) (hm : more = 1 ∨ more = 2) :
    Calls Tryd.prog 18 #[.agg #[.slice A l0.length c], .agg #[.slice A1 n1 c1], .agg #[.slice A2 n2 c2], .int .i64 n, .int .i64 more] w fun e w' => e = .returned (.bool true) ∧ Below w.heap.size w w' := by
  have O0 := Lib.hid (ov_start h h1 h2 e1 e2)
  have E1 := Lib.hid e1
  have E2 := Lib.hid e2
  have CC := Lib.hid (copy_c A c l0)
  have ST := Lib.hid (fun W A' c' (h : Law W A' c' l0) => show_text A' c' l0 W h.tree h.cap h.tab h.big)
  unfold TextAns at ST
  rw [hts] at ST
  have NN := Lib.hid (fun W (h : TreeAt W A2 c2 (hungL l0 8 zone)) => h.nest n2 E2.out)
  have NT := Lib.hid (fun W (h : TreeAt W A2 c2 (hungL l0 8 zone)) a b => h.text n2 E2.out a b)
  have MV := Lib.hid (fun W (h : TreeAt W A1 c1 (hungL l0 3 nil_)) => h.valid n1 E1.out)
  have MN := Lib.hid (fun W (h : TreeAt W A1 c1 (hungL l0 3 nil_)) => h.nest n1 E1.out)
  have MT := Lib.hid (fun W (h : TreeAt W A1 c1 (hungL l0 3 nil_)) a b => h.text n1 E1.out a b)
  unfold NestAns at NN MN
  unfold TextAns at NT MT
  have hnear := hF.near1
  simp only [Prod.mk.injEq] at hnear
  rw [hnear.1, hnear.2] at NN
  have hn0 := hF.n0.1
  have hn1 := hF.n0.2
  have htl := hF.len
  have HF := Lib.hid hF
  clear hts h h1 h2 e1 e2 hnear hF
  go_enter Tryd.func18, Tryd.ntmps18
  have c0 := O0.out.x0
  go_wp2_with fail
  refine (CC.out _ O0.out.law).mono ?_
  rintro e w1 ⟨A', c', rfl, hL1, hB⟩
  have O1 := Lib.hid (O0.out.next hB)
  have L1 := Lib.hid hL1
  clear hB hL1
  go_wp2_with fail
  refine (ST.out _ _ _ L1.out).mono ?_
  rintro e w2 ⟨v, rfl, hE, hB⟩
  cases hE
  have O2 := Lib.hid (O1.out.next hB)
  have c1 := O2.out.x1
  have c2 := O2.out.x2
  clear hB c0 CC ST L1 O1 O0
  by_cases hx : t.length + 16 ≤ 4096
  · have hxI : (t.length : Int) + 16 ≤ 4096 := by omega
    have hN2 := HF.out.near2 hx
    rw [hN2] at NT
    have heq : (⟨#[110, 101, 97, 114, 40, 34, 122, 111, 92, 34, 110, 101, 34, 44, 32]⟩ ++ ⟨t.toArray⟩ ++ ⟨#[41]⟩ : ByteArray) = ⟨tn.toArray⟩ := by
      rw [HF.out.etn]
      apply ByteArray.ext
      simp [ByteArray.data_append]
    have HEQ := Lib.hid heq
    clear hN2 heq hx
    go_wp2_with fail
    refine (NN.out _ O2.out.near).mono ?_
    rintro e w3 ⟨v, rfl, hE, hB⟩
    cases hE
    have O3 := Lib.hid (O2.out.next hB)
    have c2 := O3.out.x2
    clear hB c1 O2
    go_wp2_with fail
    refine (NT.out _ O3.out.near O3.out.law.tab O3.out.law.big).mono ?_
    rintro e w4 ⟨v, rfl, hE, hB⟩
    cases hE
    have O4 := Lib.hid (O3.out.next hB)
    have c1 := O4.out.x1
    clear hB c2 O3
  -- TAIL A
    by_cases hg : 32 < n + more
    · have hgI := hg
      have hno := HF.out.not0 hg
      obtain ⟨x, hx⟩ : ∃ x, validSpec (hungL l0 3 nil_) = some x := by cases hq : validSpec (hungL l0 3 nil_) with | none => exact absurd hq hno | some x => exact ⟨x, rfl⟩
      rw [hx] at MV
      obtain rfl : more = 2 := by rcases hm with e | e <;> omega
      clear hno hx hg
      all_goals
        have heq := HEQ.out
        go_wp2_with fail
        refine (MV.out _ O4.out.not).mono ?_
        rintro e w5 ⟨v, rfl, hE, hB⟩
        have HE := Lib.hid hE
        have O5 := Lib.hid (O4.out.next hB)
        clear hB hE
        go_wp2_with fail
        refine (refusal_any _ _ 0 0 _ HE.out false rfl).mono ?_
        rintro e w6 ⟨rfl, hB⟩
        have O6 := Lib.hid (O5.out.next hB)
        clear hB
        go_wp2
        go_ret
        exact ⟨rfl, O6.out.bel⟩
    · by_cases h3 : 4096 < t.length + 3
      · exfalso; omega
      · have h3I : ¬ ((4096 : Int) < (t.length : Int) + 3) := by omega
        have hn1' := HF.out.not1 (by omega)
        have hn2' := HF.out.not2 (by omega) (by omega)
        simp only [Prod.mk.injEq] at hn1'
        rw [hn1'.1, hn1'.2] at MN
        rw [hn2'] at MT
        have hz : (ByteArray.mk #[33] ++ ⟨t.toArray⟩ = ⟨(33 :: t).toArray⟩) := by apply ByteArray.ext; simp [ByteArray.data_append]
        have hz2 : (ByteArray.mk #[33, 40] ++ ⟨t.toArray⟩ ++ ⟨#[41]⟩ = ⟨([33, 40] ++ t ++ [41]).toArray⟩) := by apply ByteArray.ext; simp [ByteArray.data_append]
        have HZ := Lib.hid hz
        have HZ2 := Lib.hid hz2
        clear h3 hn1' hn2' hz hz2
        rcases hm with rfl | rfl
        · have hm' : tm = 33 :: t := by have := HF.out.etm; simpa using this
          rw [hm'] at MT
          have hz := HZ.out
          clear hm'
          have heq := HEQ.out
          go_wp2_with fail
          refine (MN.out _ O4.out.not).mono ?_
          rintro e w5 ⟨v, rfl, hE, hB⟩
          cases hE
          have O5 := Lib.hid (O4.out.next hB)
          have c1 := O5.out.x1
          clear hB
          go_wp2_with fail
          refine (MT.out _ O5.out.not O5.out.law.tab O5.out.law.big).mono ?_
          rintro e w6 ⟨v, rfl, hE, hB⟩
          cases hE
          have O6 := Lib.hid (O5.out.next hB)
          clear hB
          go_wp2
          go_ret
          exact ⟨rfl, O6.out.bel⟩
        · have hm' : tm = [33, 40] ++ t ++ [41] := by have := HF.out.etm; simpa using this
          rw [hm'] at MT
          have hz := HZ2.out
          clear hm'
          have heq := HEQ.out
          go_wp2_with fail
          refine (MN.out _ O4.out.not).mono ?_
          rintro e w5 ⟨v, rfl, hE, hB⟩
          cases hE
          have O5 := Lib.hid (O4.out.next hB)
          have c1 := O5.out.x1
          clear hB
          go_wp2_with fail
          refine (MT.out _ O5.out.not O5.out.law.tab O5.out.law.big).mono ?_
          rintro e w6 ⟨v, rfl, hE, hB⟩
          cases hE
          have O6 := Lib.hid (O5.out.next hB)
          clear hB
          go_wp2
          go_ret
          exact ⟨rfl, O6.out.bel⟩
  · have hxI : ¬ ((t.length : Int) + 16 ≤ 4096) := by omega
    have hxB : decide ((t.length : Int) + 16 ≤ 4096) = false := decide_eq_false hxI
    clear hx
    by_cases hg : 32 < n + more
    · have hgI := hg
      have hno := HF.out.not0 hg
      obtain ⟨x, hx⟩ : ∃ x, validSpec (hungL l0 3 nil_) = some x := by cases hq : validSpec (hungL l0 3 nil_) with | none => exact absurd hq hno | some x => exact ⟨x, rfl⟩
      rw [hx] at MV
      obtain rfl : more = 2 := by rcases hm with e | e <;> omega
      clear hno hx hg
      all_goals
        go_wp2_with fail
        refine (MV.out _ O2.out.not).mono ?_
        rintro e w5 ⟨v, rfl, hE, hB⟩
        have HE := Lib.hid hE
        have O5 := Lib.hid (O2.out.next hB)
        clear hB hE
        go_wp2_with fail
        refine (refusal_any _ _ 0 0 _ HE.out false rfl).mono ?_
        rintro e w6 ⟨rfl, hB⟩
        have O6 := Lib.hid (O5.out.next hB)
        clear hB
        go_wp2
        go_ret
        exact ⟨rfl, O6.out.bel⟩
    · by_cases h3 : 4096 < t.length + 3
      · have h3I : (4096 : Int) < (t.length : Int) + 3 := by omega
        clear h3
        rcases hm with rfl | rfl
        all_goals
          go_wp2
          go_ret
          exact ⟨rfl, O2.out.bel⟩
      · have h3I : ¬ ((4096 : Int) < (t.length : Int) + 3) := by omega
        have hn1' := HF.out.not1 (by omega)
        have hn2' := HF.out.not2 (by omega) (by omega)
        simp only [Prod.mk.injEq] at hn1'
        rw [hn1'.1, hn1'.2] at MN
        rw [hn2'] at MT
        have hz : (ByteArray.mk #[33] ++ ⟨t.toArray⟩ = ⟨(33 :: t).toArray⟩) := by apply ByteArray.ext; simp [ByteArray.data_append]
        have hz2 : (ByteArray.mk #[33, 40] ++ ⟨t.toArray⟩ ++ ⟨#[41]⟩ = ⟨([33, 40] ++ t ++ [41]).toArray⟩) := by apply ByteArray.ext; simp [ByteArray.data_append]
        have HZ := Lib.hid hz
        have HZ2 := Lib.hid hz2
        clear h3 hn1' hn2' hz hz2
        rcases hm with rfl | rfl
        · have hm' : tm = 33 :: t := by have := HF.out.etm; simpa using this
          rw [hm'] at MT
          have hz := HZ.out
          clear hm'
          go_wp2_with fail
          refine (MN.out _ O2.out.not).mono ?_
          rintro e w5 ⟨v, rfl, hE, hB⟩
          cases hE
          have O5 := Lib.hid (O2.out.next hB)
          have c1 := O5.out.x1
          clear hB
          go_wp2_with fail
          refine (MT.out _ O5.out.not O5.out.law.tab O5.out.law.big).mono ?_
          rintro e w6 ⟨v, rfl, hE, hB⟩
          cases hE
          have O6 := Lib.hid (O5.out.next hB)
          clear hB
          go_wp2
          go_ret
          exact ⟨rfl, O6.out.bel⟩
        · have hm' : tm = [33, 40] ++ t ++ [41] := by have := HF.out.etm; simpa using this
          rw [hm'] at MT
          have hz := HZ2.out
          clear hm'
          go_wp2_with fail
          refine (MN.out _ O2.out.not).mono ?_
          rintro e w5 ⟨v, rfl, hE, hB⟩
          cases hE
          have O5 := Lib.hid (O2.out.next hB)
          have c1 := O5.out.x1
          clear hB
          go_wp2_with fail
          refine (MT.out _ O5.out.not O5.out.law.tab O5.out.law.big).mono ?_
          rintro e w6 ⟨v, rfl, hE, hB⟩
          cases hE
          have O6 := Lib.hid (O5.out.next hB)
          clear hB
          go_wp2
          go_ret
          exact ⟨rfl, O6.out.bel⟩
end Go.Proofs.YteeojceloljcbaaDoor.H
