/-
  The walk of the law ShowOver, over a tree as memory holds it.
-/
import Derived.Test.YteeojceloljcbaaDoorOverW
import Derived.Test.YteeojceloljcbaaDoorAwake
set_option linter.unusedVariables false
set_option linter.unusedSimpArgs false
namespace Go.Proofs.YteeojceloljcbaaDoor.H
open Go.RowKit Go.Proofs.YteeojceloljcbaaDoorW.PrintWords Go.Proofs.YteeojceloljcbaaDoorW.PrintLast Go.Proofs.YteeojceloljcbaaDoor.P

theorem formGo_sum (l0 : List Pt) : ∀ (d i : Nat) (free : List Int), d = l0.length - i → i ≤ l0.length → formGo l0 (l0.drop i) i free = none → kidSum (l0.drop i) + 1 = free.length + (l0.length - i)
  | 0, i, free, hd, hi, h => by
    obtain rfl : i = l0.length := by omega
    rw [List.drop_length] at h ⊢
    simp only [formGo] at h
    by_cases e : free.length = 1
    · simp [kidSum, e]
    · simp [e] at h
  | d + 1, i, free, hd, hi, h => by
    have hlt : i < l0.length := by omega
    cases hs : stepB l0 (rdp l0 (i : Int)) free with
    | false => rw [formGo_no l0 i free hlt hs] at h; cases h
    | true =>
      rw [formGo_yes l0 i free hlt hs] at h
      have ih := formGo_sum l0 d (i + 1) _ (by omega) hlt h
      rw [drop_part l0 i hlt, kidSum]
      have hle : (rd_T45 l0 (i : Int)).f3.length ≤ free.length := by
        simp only [stepB, Bool.and_eq_true, decide_eq_true_eq] at hs; exact hs.1.1.2
      simp only [stepF, List.length_append, List.length_take, List.length_singleton] at ih
      omega
theorem valid_small (l0 : List Pt) (h : validSpec l0 = none) : largeB l0 = false := by
  have hf := (nest_facts l0 h).1
  have hS := formSpec_shape l0 hf
  have h0 := hS.pos
  have h1 := hS.few
  have hg : formGo l0 (l0.drop 0) 0 [] = none := by
    unfold formSpec at hf
    rwa [if_neg (by omega), if_neg (by omega)] at hf
  have := formGo_sum l0 l0.length 0 [] rfl (Nat.zero_le _) hg
  simp at this
  simp [largeB]; omega

set_option maxHeartbeats 4000000 in
set_option maxRecDepth 100000 in
theorem over_c1 (A : Option Addr) (c : Nat) (l0 : List Pt) (w : World) (h : Law w A c l0) (f : Int × Int) (hv : validSpec l0 = some f) :
    Calls Tryd.prog 6 #[.agg #[.slice A l0.length c]] w fun e w' => e = .returned (.bool true) ∧ Below w.heap.size w w' := by
  have HL := Lib.hid h
  have HW := Lib.hid ((Below.refl w.heap.size w).alloc (Nat.le_refl _) (.cells #[.slice A l0.length c] 24))
  have AW := Lib.hid awake_true
  have CC := Lib.hid (copy_c A c l0)
  have SN := Lib.hid (fun A' c' => show_nest A' c' l0)
  rw [hv] at SN
  unfold NestAns at SN
  clear h hv
  go_enter Tryd.func6, Tryd.ntmps6
  go_wp2_with fail
  have L0 := Lib.hid (HL.out.below HW.out)
  refine (AW.out _ L0.out.tab L0.out.big).mono ?_
  rintro e w1 ⟨rfl, hB⟩
  have L1 := Lib.hid (L0.out.below hB)
  have B1 := Lib.hid (below_then HW.out HW.out.size hB)
  have hc1 : w1.cell? ⟨w.heap.size, 0, none⟩ = some (.slice A l0.length c) := pw_cell_below hB (by simp)
  clear hB
  go_wp2_with fail
  refine (CC.out _ L1.out).mono ?_
  rintro e w2 ⟨A', c', rfl, hL3, hB⟩
  have L3 := Lib.hid hL3
  have B2 := Lib.hid (below_then B1.out B1.out.size hB)
  clear hB hL3 hc1
  go_wp2_with fail
  refine (SN.out _ _ _ L3.out.reads L3.out.cap).mono ?_
  rintro e w3 ⟨v, rfl, hE, hB⟩
  have B3 := Lib.hid (below_then B2.out B2.out.size hB)
  obtain ⟨fc, fa⟩ := f
  obtain ⟨b, rfl, hrest⟩ := hE
  clear hB hrest
  go_wp2
  go_ret
  exact ⟨rfl, B3.out⟩

theorem over_call (A : Option Addr) (c : Nat) (l0 : List Pt) (m : Int) (hm : m = if rootB l0 then (2 : Int) else 1) (n : Int) (A1 : Option Addr) (c1 n1 : Nat) (A2 : Option Addr) (c2 n2 : Nat) (w : World) (h : Law w A c l0) (h1 : TreeAt w A1 c1 (hungL l0 3 nil_)) (h2 : TreeAt w A2 c2 (hungL l0 8 zone)) (e1 : n1 = (hungL l0 3 nil_).length) (e2 : n2 = (hungL l0 8 zone).length) (hv : OvL l0) (hn : nestOf l0 = n) :
    Calls Tryd.prog 18 #[.agg #[.slice A l0.length c], .agg #[.slice A1 n1 c1], .agg #[.slice A2 n2 c2], .int .i64 n, .int .i64 m] w fun e w' => e = .returned (.bool true) ∧ Below w.heap.size w w' := by
  subst hn
  rcases textSpec_cases l0 hv.ok with hts | ⟨hts, htl⟩
  · exact over_err A c l0 A1 c1 n1 A2 c2 n2 _ m w h h1 h2 e1 e2 hts
  · obtain ⟨tn, tm, hF⟩ := ovF l0 hv htl
    rw [← hm] at hF
    exact over_ok A c l0 A1 c1 n1 A2 c2 n2 _ m _ tn tm w h h1 h2 e1 e2 hts hF (by rw [hm]; split <;> simp)

/-- What the end of the law finds. -/
structure FinAt (w W : World) (A1 : Option Addr) (c1 n1 : Nat) (A2 : Option Addr) (c2 n2 : Nat) (g1 g2 : Nat) (l1 l2 : List Pt) : Prop where
  bel : Below w.heap.size w W
  t1 : TreeAt W A1 c1 l1
  t2 : TreeAt W A2 c2 l2
  b1 : W.heap[g1]? = some (.cells #[.slice A1 n1 c1] 24 (0, 0))
  b2 : W.heap[g2]? = some (.cells #[.slice A2 n2 c2] 24 (0, 0))
theorem FinAt.next {w W W' : World} {A1 : Option Addr} {c1 n1 : Nat} {A2 : Option Addr} {c2 n2 : Nat} {g1 g2 : Nat} {l1 l2 : List Pt} (h : FinAt w W A1 c1 n1 A2 c2 n2 g1 g2 l1 l2) (k : Below W.heap.size W W') : FinAt w W' A1 c1 n1 A2 c2 n2 g1 g2 l1 l2 :=
  ⟨below_then h.bel h.bel.size k, h.t1.below k, h.t2.below k, (k.block _ (Array.getElem?_eq_some_iff.1 h.b1).1).trans h.b1, (k.block _ (Array.getElem?_eq_some_iff.1 h.b2).1).trans h.b2⟩

set_option maxHeartbeats 8000000 in
set_option maxRecDepth 100000 in
theorem over_c4 (A : Option Addr) (c : Nat) (l0 : List Pt) (w : World) (h : Law w A c l0) (hv : validSpec l0 = none) :
    Calls Tryd.prog 6 #[.agg #[.slice A l0.length c]] w fun e w' => e = .returned (.bool true) ∧ Below w.heap.size w w' := by
  have HL := Lib.hid h
  have HW := Lib.hid ((Below.refl w.heap.size w).alloc (Nat.le_refl _) (.cells #[.slice A l0.length c] 24))
  have AW := Lib.hid awake_true
  have CC := Lib.hid (copy_c A c l0)
  have SN := Lib.hid (fun A' c' => show_nest A' c' l0)
  have hfa := nest_facts l0 hv
  have hS := formSpec_shape l0 hfa.1
  have hpos := hS.pos
  have hfew := hS.few
  have hn0 := hfa.2.1
  have hn1 := hfa.2.2.1
  have hlg := valid_small l0 hv
  have HV := Lib.hid hv
  have HG := Lib.hid (fun k s W (h : Law W A c l0) => hung_any A c l0 k s W h hlg hfew hpos)
  rw [hv] at SN
  unfold NestAns at SN
  unfold HungAns at HG
  clear h hv hfa hS hlg
  generalize hnn : nestOf l0 = n at *
  have HN := Lib.hid hnn
  clear hnn
  have hwl : IntKind.i64.wrap ((l0.length : Int) - 1) = (l0.length : Int) - 1 := IntWalk.i64_in _ (by omega)
  have hl0 : l0.length ≠ 0 := by omega
  have hn32B : decide (32 < n) = false := by simp; omega
  have hn0B : decide (n < 0) = false := by simp; omega
  have hwl2 : l0.length - 1 < l0.length := by omega
  go_enter Tryd.func6, Tryd.ntmps6
  go_wp2_with fail
  have L0 := Lib.hid (HL.out.below HW.out)
  refine (AW.out _ L0.out.tab L0.out.big).mono ?_
  rintro e w1 ⟨rfl, hB⟩
  have L1 := Lib.hid (L0.out.below hB)
  have B1 := Lib.hid (below_then HW.out HW.out.size hB)
  have hb1 : w1.heap[w.heap.size]? = some (.cells #[.slice A l0.length c] 24 (0, 0)) := (hB.block _ (by simp)).trans (Go.heap_alloc_new _ _)
  have hc1 : w1.cell? ⟨w.heap.size, 0, none⟩ = some (.slice A l0.length c) := (Lib.cell_of_heap hb1 _).trans rfl
  have X1 := Lib.hid hb1
  clear hB hb1
  go_wp2_with fail
  refine (CC.out _ L1.out).mono ?_
  rintro e w2 ⟨A', c', rfl, hL3, hB⟩
  have L3 := Lib.hid hL3
  have L2 := Lib.hid (L1.out.below hB)
  have B2 := Lib.hid (below_then B1.out B1.out.size hB)
  have X2 := Lib.hid ((hB.block _ (Array.getElem?_eq_some_iff.1 X1.out).1).trans X1.out)
  clear hB hL3 hc1
  go_wp2_with fail
  refine (SN.out _ _ _ L3.out.reads L3.out.cap).mono ?_
  rintro e w3 ⟨v, rfl, hE, hB⟩
  cases hE
  have L4 := Lib.hid (L2.out.below hB)
  have B3 := Lib.hid (below_then B2.out B2.out.size hB)
  have X3 := Lib.hid ((hB.block _ (Array.getElem?_eq_some_iff.1 X2.out).1).trans X2.out)
  have hc3 : w3.cell? ⟨w.heap.size, 0, none⟩ = some (.slice A l0.length c) := (Lib.cell_of_heap X3.out _).trans rfl
  obtain ⟨ad, A3, c3, rfl, e0, -⟩ := at_part L4.out.tree (l0.length - 1) hwl2 _ rfl
  have HR : Hid (rootB l0 = ((rdp l0 ((l0.length - 1 : Nat) : Int)).f0 == 4 || (rdp l0 ((l0.length - 1 : Nat) : Int)).f0 == 5)) := Lib.hid rfl
  have e0' : w3.cell? (ad.add ((l0.length - 1) * 4)) = some (.int .i64 (rdp l0 ((l0.length - 1 : Nat) : Int)).f0) := e0
  clear hB e0
  generalize (rdp l0 ((l0.length - 1 : Nat) : Int)).f0 = q at *
  have hq : (q = 4 ∧ rootB l0 = true) ∨ ((q == 4) = false ∧ q = 5 ∧ rootB l0 = true) ∨ ((q == 4) = false ∧ (q == 5) = false ∧ rootB l0 = false) := by
    rw [HR.out]
    by_cases q4 : q = 4
    · exact .inl ⟨q4, by rw [q4]; rfl⟩
    · have q4b : (q == 4) = false := by simpa using q4
      by_cases q5 : q = 5
      · exact .inr (.inl ⟨q4b, q5, by rw [q5]; rfl⟩)
      · have q5b : (q == 5) = false := by simpa using q5
        exact .inr (.inr ⟨q4b, q5b, by rw [q4b, q5b]; rfl⟩)
  have OV := Lib.hid (fun m (hm : m = if rootB l0 then (2 : Int) else 1) => over_call (some ad) c l0 m hm)
  have R3 := Lib.hid (And.intro B3.out X3.out)
  clear HR L0 L1 L2 L3 B1 B2 B3 X1 X2 X3 SN CC AW HW
  rcases hq with ⟨rfl, hr⟩ | ⟨q4b, rfl, hr⟩ | ⟨q4b, q5b, hr⟩
  all_goals
    rw [hr] at OV
    have OV2 := Lib.hid (OV.out _ rfl)
    clear OV hr
    go_wp2_with fail
    refine (HG.out 3 nil_ _ L4.out).mono ?_
    rintro e w5 ⟨A1, c1, rfl, hT1, hk1, hB⟩
    have T1 := Lib.hid (TreeAt.mk hT1 hk1)
    have L5 := Lib.hid ((L4.out.below hB).below ((Below.refl _ _).alloc (Nat.le_refl _) (.cells #[.slice A1 (hungL l0 3 nil_).length c1] 24)))
    have B5 := Lib.hid (below_then R3.out.1 R3.out.1.size hB)
    have x5 := (hB.block _ (Array.getElem?_eq_some_iff.1 R3.out.2).1).trans R3.out.2
    have hz5 := (Array.getElem?_eq_some_iff.1 x5).1
    have y5 : (w5.alloc (.cells #[.slice A1 (hungL l0 3 nil_).length c1] 24)).heap[w.heap.size]? = some (.cells #[.slice (some ad) l0.length c] 24 (0, 0)) := (Below.heap_alloc _ _ _ hz5).trans x5
    have hc5 : w5.cell? ⟨w.heap.size, 0, none⟩ = some (.slice (some ad) l0.length c) := (Lib.cell_of_heap x5 _).trans rfl
    have Y5 := Lib.hid y5
    obtain ⟨n1, e1⟩ : ∃ n1, n1 = (hungL l0 3 nil_).length := ⟨_, rfl⟩
    rw [← e1] at L5 Y5 ⊢
    have E1 := Lib.hid e1
    clear hT1 hk1 hB x5 y5 e1 hc3 e0'
    go_wp2_with fail
    refine (HG.out 8 zone _ L5.out).mono ?_
    rintro e w6 ⟨A2, c2, rfl, hT2, hk2, hB⟩
    obtain ⟨n2, e2⟩ : ∃ n2, n2 = (hungL l0 8 zone).length := ⟨_, rfl⟩
    rw [← e2]
    have E2 := Lib.hid e2
    have G5 : (w5.alloc (.cells #[.slice A1 n1 c1] 24)).heap[w5.heap.size]? = some (.cells #[.slice A1 n1 c1] 24 (0, 0)) := Go.heap_alloc_new _ _
    have x6 := (hB.block _ (Array.getElem?_eq_some_iff.1 Y5.out).1).trans Y5.out
    have g6 := (hB.block _ (Array.getElem?_eq_some_iff.1 G5).1).trans G5
    have B6 := Lib.hid (below_then (B5.out.alloc B5.out.size (.cells #[.slice A1 n1 c1] 24)) (B5.out.alloc B5.out.size (.cells #[.slice A1 n1 c1] 24)).size hB)
    have T16 := Lib.hid ((T1.out.below ((Below.refl _ _).alloc (Nat.le_refl _) (.cells #[.slice A1 n1 c1] 24))).below hB)
    have T26 := Lib.hid (TreeAt.mk hT2 hk2)
    have L6 := Lib.hid (L5.out.below hB)
    have A6 := fun (o : Obj) => ((Below.refl w6.heap.size w6).alloc (Nat.le_refl _) o)
    have hz6 := (Array.getElem?_eq_some_iff.1 x6).1
    have hz7 := (Array.getElem?_eq_some_iff.1 g6).1
    have c6 : w6.cell? ⟨w.heap.size, 0, none⟩ = some (.slice (some ad) l0.length c) := (Lib.cell_of_heap x6 _).trans rfl
    have d6 : w6.cell? ⟨w5.heap.size, 0, none⟩ = some (.slice A1 n1 c1) := (Lib.cell_of_heap g6 _).trans rfl
    have L7 := Lib.hid (L6.out.below (A6 (.cells #[.slice A2 n2 c2] 24)))
    have T17 := Lib.hid (T16.out.below (A6 (.cells #[.slice A2 n2 c2] 24)))
    have T27 := Lib.hid (T26.out.below (A6 (.cells #[.slice A2 n2 c2] 24)))
    have B7 := Lib.hid (B6.out.alloc B6.out.size (.cells #[.slice A2 n2 c2] 24))
    have F7 : Hid (FinAt w (w6.alloc (.cells #[.slice A2 n2 c2] 24)) A1 c1 n1 A2 c2 n2 w5.heap.size w6.heap.size (hungL l0 3 nil_) (hungL l0 8 zone)) := Lib.hid ⟨B7.out, T17.out, T27.out, (Below.heap_alloc _ _ _ hz7).trans g6, Go.heap_alloc_new _ _⟩
    clear hT2 hk2 hB e2 x6 g6 A6 G5 L5 Y5 T1 T16 T26 L6 B5 B6 hc5 T17 T27 B7
    by_cases h1000 : l0.length = 1000
    · have hlB : ((l0.length : Int) == 1000) = true := by simp; omega
      have VN := Lib.hid (hung_many l0 3 nil_ h1000)
      have VM := Lib.hid (hung_many l0 8 zone h1000)
      clear h1000
      go_wp2_with fail
      refine (F7.out.t1.valid n1 E1.out).mono ?_
      rintro e w8 ⟨v, rfl, hE, hB⟩
      rw [VN.out] at hE
      have HE := Lib.hid hE
      have F8 := Lib.hid (F7.out.next hB)
      clear hB hE
      go_wp2_with fail
      refine (refusal_any _ _ 130 1000 _ HE.out true rfl).mono ?_
      rintro e w9 ⟨rfl, hB⟩
      have F9 := Lib.hid (F8.out.next hB)
      have d9 : w9.cell? ⟨w6.heap.size, 0, none⟩ = some (.slice A2 n2 c2) := (Lib.cell_of_heap F9.out.b2 _).trans rfl
      clear hB HE
      go_wp2_with fail
      refine (F9.out.t2.valid n2 E2.out).mono ?_
      rintro e w10 ⟨v2, rfl, hE, hB⟩
      rw [VM.out] at hE
      have HE := Lib.hid hE
      have F10 := Lib.hid (F9.out.next hB)
      clear hB hE
      go_wp2_with fail
      refine (refusal_any _ _ 130 1000 _ HE.out true rfl).mono ?_
      rintro e w11 ⟨rfl, hB⟩
      have F11 := Lib.hid (F10.out.next hB)
      clear hB
      go_wp2
      go_ret
      exact ⟨rfl, F11.out.bel⟩
    · have hlB : ((l0.length : Int) == 1000) = false := by simp; omega
      have hlt : l0.length < 1000 := by omega
      by_cases h32 : n = 32
      · have VN := Lib.hid ((hung_valid l0 3 nil_ HV.out hlt (hangs_not l0 HV.out)).2 (by rw [HN.out, more_not]; split <;> omega))
        have VM := Lib.hid ((hung_valid l0 8 zone HV.out hlt (hangs_near l0 HV.out)).2 (by rw [HN.out, more_near]; omega))
        subst h32
        go_wp2_with fail
        refine (F7.out.t1.valid n1 E1.out).mono ?_
        rintro e w8 ⟨v, rfl, hE, hB⟩
        obtain ⟨x, hx⟩ := Option.ne_none_iff_exists'.1 VN.out
        rw [hx] at hE
        have HE := Lib.hid hE
        have F8 := Lib.hid (F7.out.next hB)
        clear hB hE hx
        go_wp2_with fail
        refine (refusal_any _ _ 0 0 _ HE.out false rfl).mono ?_
        rintro e w9 ⟨rfl, hB⟩
        have F9 := Lib.hid (F8.out.next hB)
        have d9 : w9.cell? ⟨w6.heap.size, 0, none⟩ = some (.slice A2 n2 c2) := (Lib.cell_of_heap F9.out.b2 _).trans rfl
        clear hB HE
        go_wp2_with fail
        refine (F9.out.t2.valid n2 E2.out).mono ?_
        rintro e w10 ⟨v2, rfl, hE, hB⟩
        obtain ⟨x2, hx⟩ := Option.ne_none_iff_exists'.1 VM.out
        rw [hx] at hE
        have HE := Lib.hid hE
        have F10 := Lib.hid (F9.out.next hB)
        clear hB hE hx
        go_wp2_with fail
        refine (refusal_any _ _ 0 0 _ HE.out false rfl).mono ?_
        rintro e w11 ⟨rfl, hB⟩
        have F11 := Lib.hid (F10.out.next hB)
        clear hB
        go_wp2
        go_ret
        exact ⟨rfl, F11.out.bel⟩
      · have hnB : (n == 32) = false := by simpa using h32
        have HO : Hid (OvL l0) := Lib.hid ⟨HV.out, hlt, by rw [HN.out]; omega, by rw [HN.out]; omega⟩
        clear h1000 h32
        go_wp2_with fail
        refine (OV2.out n A1 c1 n1 A2 c2 n2 _ L7.out F7.out.t1 F7.out.t2 E1.out E2.out HO.out HN.out).mono ?_
        rintro e w8 ⟨rfl, hB⟩
        have F8 := Lib.hid (F7.out.next hB)
        clear hB
        go_wp2
        go_ret
        exact ⟨rfl, F8.out.bel⟩
theorem law_over (A : Option Addr) (c : Nat) (l0 : List Pt) (w : World) (h : Law w A c l0) :
    Calls Tryd.prog 6 #[.agg #[.slice A l0.length c]] w fun e w' => e = .returned (.bool true) ∧ Below w.heap.size w w' := by
  cases hv : validSpec l0 with
  | some f => exact over_c1 A c l0 w h f hv
  | none => exact over_c4 A c l0 w h hv
end Go.Proofs.YteeojceloljcbaaDoor.H
