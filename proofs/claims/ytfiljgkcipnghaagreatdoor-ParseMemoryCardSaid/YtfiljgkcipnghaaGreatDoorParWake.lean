/-
  The walk of sameInts.
  The walk of wakes.
-/
import Derived.Test.YtfiljgkcipnghaaGreatDoorParRun
import Derived.Test.YtfiljgkcipnghaaGreatDoorFault
set_option linter.unusedVariables false
set_option linter.unusedSimpArgs false
namespace Go.Proofs.YtfiljgkcipnghaaGreatDoor.X
open Go.RowKit
/-- A slice of whole numbers lies there. -/
def IntsAt (w : World) (v : Value) (xs : List Int) : Prop :=
  (xs = [] ∧ ∃ a cap, v = .slice a 0 cap) ∨ ∃ g o cap, v = .slice (some ⟨g, o, none⟩) xs.length cap ∧ g < w.heap.size ∧ ∀ k (h : k < xs.length), w.cell? ⟨g, o + k, none⟩ = some (.int .i64 xs[k])
theorem IntsAt.below {w w' : World} {v : Value} {xs : List Int} (h : IntsAt w v xs) (hb : Below w.heap.size w w') : IntsAt w' v xs := by
  rcases h with h | ⟨g, o, cap, h1, h2, h3⟩
  · exact .inl h
  · exact .inr ⟨g, o, cap, h1, Nat.lt_of_lt_of_le h2 hb.size, fun k hk => (World.cell?_of_block (a := ⟨g, o + k, none⟩) (hb.block g h2)).trans (h3 k hk)⟩
theorem IntsAt.form {w : World} {v : Value} {xs : List Int} (h : IntsAt w v xs) : ∃ a cap, v = .slice a xs.length cap := by
  rcases h with ⟨rfl, a, cap, h⟩ | ⟨g, o, cap, h, _⟩
  · exact ⟨a, cap, h⟩
  · exact ⟨_, cap, h⟩
theorem ints_own {w : World} {base e n : Nat} {v : Value} {xs : List Int} (h : w.ownsRow base e 1 v n (xs.map fun x => Value.int .i64 x)) : IntsAt w v xs := by
  have hl : xs.length = n := by have := h.1; simpa using this
  rcases h.2 with ⟨h1, h2⟩ | ⟨g, cap, cur, h1, h2, h3, h4⟩
  · exact .inl ⟨List.eq_nil_of_length_eq_zero (by omega), none, 0, by rw [h1]⟩
  · refine .inr ⟨g, 0, cap, by rw [h1, hl], (Array.getElem?_eq_some_iff.1 h3).1, fun k hk => ?_⟩
    rw [h1] at h
    rw [Nat.zero_add, h.cellAt k (by omega), List.getElem?_map, List.getElem?_eq_getElem hk]
    rfl
theorem ints_lit (w : World) (xs : List Int) (cs : Array Value) (e : TypeId) (hc : cs.toList = xs.map fun x => Value.int .i64 x) (n : Nat) (hn : n = xs.length) : IntsAt (w.alloc (.cells cs e)) (.slice (some ⟨w.heap.size, 0, none⟩) n n) xs := by
  subst hn
  refine .inr ⟨w.heap.size, 0, _, rfl, by simp, fun k hk => ?_⟩
  have h := Lib.cell_of_heap (Go.heap_alloc_new w (.cells cs e)) (0 + k)
  rw [h, Nat.zero_add, ← Array.getElem?_toList, hc, List.getElem?_map, List.getElem?_eq_getElem hk]
  rfl
theorem int_take {ta tb : List Int} {k : Nat} (ha : k < ta.length) (hb : k < tb.length) (h : ta.take k = tb.take k) (he : ta[k] = tb[k]) : ta.take (k + 1) = tb.take (k + 1) := by
  rw [List.take_succ_eq_append_getElem ha, List.take_succ_eq_append_getElem hb, h, he]
theorem int_all {ta tb : List Int} (hl : ta.length = tb.length) (h : ta.take ta.length = tb.take ta.length) : ta = tb := by
  rw [List.take_length, hl, List.take_length] at h; exact h
set_option maxHeartbeats 4000000 in
set_option maxRecDepth 100000 in
theorem sameInts_any (va vb : Value) (ta tb : List Int) (w : World) (ha : IntsAt w va ta) (hb : IntsAt w vb tb) (hla : ta.length ≤ 1000000000000) (hlb : tb.length ≤ 1000000000000) :
    Calls Tryz.prog 18 #[va, vb] w fun e w' => e = .returned (.bool (decide (ta = tb))) ∧ Below w.heap.size w w' := by
  by_cases hl : ta.length = tb.length
  · by_cases h0 : ta = []
    · have h1 : tb = [] := List.eq_nil_of_length_eq_zero (by rw [← hl, h0]; rfl)
      subst h0 h1
      obtain ⟨x, y, rfl⟩ := ha.form
      obtain ⟨x2, y2, rfl⟩ := hb.form
      clear ha hb hla hlb hl
      simp only [List.length_nil]
      go_enter Tryz.func18, Tryz.ntmps18
      go_wp2
      go_loopw [5] (fun v wr => v = .int .i64 0 ∧ w = wr) (fun v _ => 0)
      case atStart => exact ⟨rfl, rfl⟩
      case round =>
        obtain ⟨rfl, rfl⟩ := hrel
        go_wp2
        go_ret
        exact ⟨rfl, Below.refl _ _⟩
    · have h1 : ¬ tb = [] := fun e => h0 (List.eq_nil_of_length_eq_zero (by rw [hl, e]; rfl))
      rcases ha with ⟨e, _⟩ | ⟨ga, oa, ca, rfl, hga, ha⟩
      · exact absurd e h0
      rcases hb with ⟨e, _⟩ | ⟨gb, ob, cb, rfl, hgb, hb⟩
      · exact absurd e h1
      have HA := Lib.hid ha
      have HB := Lib.hid hb
      obtain ⟨n, hn⟩ : ∃ n, n = ta.length := ⟨_, rfl⟩
      have hnb : tb.length = n := by omega
      have HL := Lib.hid hl
      have HNA := Lib.hid hn
      have HNB := Lib.hid hnb
      rw [hnb, ← hn]
      have hn2 : n ≤ 1000000000000 := by omega
      clear ha hb hl hn hnb hla hlb h0 h1
      go_enter Tryz.func18, Tryz.ntmps18
      go_wp2
      go_loopw [5] (fun v wr => ∃ k : Nat, k ≤ n ∧ v = .int .i64 k ∧ Hid (ta.take k = tb.take k) ∧ Hid (Below w.heap.size w wr)) (fun v _ => n - (intOf v).toNat)
      case atStart => exact ⟨0, by omega, rfl, Lib.hid rfl, Lib.hid (Below.refl _ _)⟩
      case round =>
        obtain ⟨k, hk, rfl, HK, HW⟩ := hrel
        by_cases hlt : k < n
        · have hka : k < ta.length := by have := HNA.out; omega
          have hkb : k < tb.length := by have := HNB.out; omega
          have hI : (k : Int) < (n : Int) := by omega
          have a0 : wr.cell? ⟨ga, oa + k, none⟩ = some (.int .i64 ta[k]) := (World.cell?_of_block (a := ⟨ga, oa + k, none⟩) (HW.out.block ga hga)).trans (HA.out k hka)
          have b0 : wr.cell? ⟨gb, ob + k, none⟩ = some (.int .i64 tb[k]) := (World.cell?_of_block (a := ⟨gb, ob + k, none⟩) (HW.out.block gb hgb)).trans (HB.out k hkb)
          have HT : Hid (ta[k] = tb[k] → ta.take (k + 1) = tb.take (k + 1)) := Lib.hid (int_take hka hkb HK.out)
          have HF : Hid (ta[k] ≠ tb[k] → ta ≠ tb) := Lib.hid (fun h1 h2 => h1 (by subst h2; rfl))
          generalize ta[k] = x at a0 HT HF
          generalize tb[k] = y at b0 HT HF
          by_cases hxy : x = y
          · have e0 : (x != y) = false := by rw [hxy]; simp
            have HT2 := Lib.hid (HT.out hxy)
            clear hxy HT HF
            go_wp2
            go_quiet (fail)
            go_wp2
            go_roundw
            case rel => exact ⟨k + 1, by omega, by go_num, HT2, Lib.hid (below_drewN HW.out _)⟩
            case measure => simp [intOf]; omega
          · have e0 : (x != y) = true := by rw [bne_iff_ne]; exact hxy
            have HF2 := Lib.hid (HF.out hxy)
            clear hxy HT HF
            go_wp2
            go_quiet (fail)
            go_wp2
            go_ret
            exact ⟨by simp [HF2.out], below_drewN HW.out _⟩
        · have hI : ¬ ((k : Int) < (n : Int)) := by omega
          have HE : Hid (ta = tb) := Lib.hid (int_all HL.out (by have := HK.out; rw [show k = ta.length by have := HNA.out; omega] at this; exact this))
          go_wp2
          go_ret
          exact ⟨by simp [HE.out], HW.out⟩
  · have hne : ¬ ta = tb := fun e => hl (by rw [e])
    obtain ⟨x, y, rfl⟩ := ha.form
    obtain ⟨x2, y2, rfl⟩ := hb.form
    have e0 : ((ta.length : Int) != (tb.length : Int)) = true := by rw [bne_iff_ne]; omega
    clear ha hb
    generalize ta.length = la at *
    generalize tb.length = lb at *
    have HN := Lib.hid hne
    clear hne hl
    go_enter Tryz.func18, Tryz.ntmps18
    go_wp2
    go_ret
    exact ⟨by simp [HN.out], Below.refl _ _⟩

end Go.Proofs.YtfiljgkcipnghaaGreatDoor.X
set_option linter.unusedVariables false
set_option linter.unusedSimpArgs false
namespace Go.Proofs.YtfiljgkcipnghaaGreatDoor.X
open Go.RowKit
theorem err_is {w : World} {b : Nat} {c a : Int} (h : w.heap[b]? = some (faultObj c a)) (hc : (c == 0) = false) : H.ErrIs w (.iface 64 (.pointer (some ⟨b, 0, none⟩))) (some (c, a)) :=
  ⟨b, rfl, (Array.getElem?_eq_some_iff.1 h).1, (Lib.cell_of_heap h _).trans rfl, (Lib.cell_of_heap h _).trans rfl, (Lib.cell_of_heap h _).trans rfl, (Lib.cell_of_heap h _).trans rfl, hc⟩
theorem RowIn.form {w : World} {base e size n : Nat} {v : Value} {xs : List Value} (h : RowIn w base e size v n xs) (hn : 0 < n) : ∃ g, v = .slice (some ⟨g, 0, none⟩) n n ∧ base ≤ g ∧ g < w.heap.size ∧ ∀ j, j < n * size → w.cell? ⟨g, j, none⟩ = xs[j]? := by
  rcases h.at_ with ⟨_, h0⟩ | ⟨g, cur, h1, h2, h3, h4, h5⟩
  · omega
  · refine ⟨g, h1, h2, (Array.getElem?_eq_some_iff.1 h3).1, fun j hj => ?_⟩
    rw [Lib.cell_of_heap h3 j, ← h5, List.getElem?_take, if_pos hj, Array.getElem?_toList]
theorem RowIn.ints {w : World} {base e n : Nat} {v : Value} {xs : List Nat} (h : RowIn w base e 1 v n (xs.map fun i => Value.int .i64 (i : Nat))) : IntsAt w v (xs.map fun i : Nat => (i : Int)) := by
  have hl : xs.length = n := by have := h.len; simpa using this
  rcases h.at_ with ⟨h1, h2⟩ | ⟨g, cur, h1, h2, h3, h4, h5⟩
  · exact .inl ⟨by rw [List.map_eq_nil_iff]; exact List.eq_nil_of_length_eq_zero (by omega), none, 0, by rw [h1]⟩
  · refine .inr ⟨g, 0, n, by rw [h1, List.length_map, hl], (Array.getElem?_eq_some_iff.1 h3).1, fun k hk => ?_⟩
    rw [List.length_map] at hk
    rw [Nat.zero_add, Lib.cell_of_heap h3 k, ← Array.getElem?_toList]
    have h6 := congrArg (fun l => l[k]?) h5
    simp only [List.getElem?_take, List.getElem?_map, List.getElem?_eq_getElem hk] at h6
    rw [if_pos (by omega)] at h6
    rw [h6]; simp
theorem kid_ints {w : World} {base : Nat} {v : Value} {kids : List Nat} (h : kidRow w base v kids) : IntsAt w v (kids.map fun i : Nat => (i : Int)) := by
  refine ints_own (base := base) (e := 3) (n := kids.length) ?_
  rw [List.map_map]; exact h
theorem wake1 : parseL (⟨#[33, 110, 111, 100, 101, 91, 34, 122, 34, 93, 32, 61, 61, 32, 34, 97, 34]⟩ : ByteArray).data.toList = .ok ([⟨14, [122], 2, []⟩, ⟨11, [97], 0, []⟩, ⟨6, [], 1, [0, 1]⟩, ⟨3, [], 0, [2]⟩], [1, 14, 11, 0]) := by kernel_rfl
theorem wake2 : parseL (⟨#[116, 114, 117, 101, 32, 116, 114, 117, 101]⟩ : ByteArray).data.toList = .error (120, 5) := by kernel_rfl
theorem four_of {l : List Value} (h : l.length = 4) : ∃ a b c d, l = [a, b, c, d] := by
  match l, h with
  | [a, b, c, d], _ => exact ⟨a, b, c, d, rfl⟩
theorem ints_litg (w : World) (xs : List Int) (cs : Array Value) (e : TypeId) (hc : cs.toList = xs.map fun x => Value.int .i64 x) (n g : Nat) (hn : n = xs.length) (hg : g = w.heap.size) : IntsAt (w.alloc (.cells cs e)) (.slice (some ⟨g, 0, none⟩) n n) xs := by
  subst hg; exact ints_lit w xs cs e hc n hn
theorem cell_keep {w w' : World} {base g j : Nat} {v : Value} (hb : Below base w w') (hg : g < base) (h : w.cell? ⟨g, j, none⟩ = some v) : w'.cell? ⟨g, j, none⟩ = some v :=
  (World.cell?_of_block (a := ⟨g, j, none⟩) (hb.block g hg)).trans h
set_option maxHeartbeats 8000000 in
set_option maxRecDepth 100000 in
theorem wakes_any (w : World) (hL : LW w) : Calls Tryz.prog 15 #[] w fun e w' => e = .returned (.bool true) ∧ Below w.heap.size w w' := by
  have P1 : Hid (Calls Tryz.prog 10 #[.string ⟨#[33, 110, 111, 100, 101, 91, 34, 122, 34, 93, 32, 61, 61, 32, 34, 97, 34]⟩] w (ParseAns w (.ok ([⟨14, [122], 2, []⟩, ⟨11, [97], 0, []⟩, ⟨6, [], 1, [0, 1]⟩, ⟨3, [], 0, [2]⟩], [1, 14, 11, 0])))) :=
    Lib.hid (by have h := parse_c ⟨#[33, 110, 111, 100, 101, 91, 34, 122, 34, 93, 32, 61, 61, 32, 34, 97, 34]⟩ w (by decide) hL; rw [wake1] at h; exact h)
  have P2 : Hid (∀ w2, Below w.heap.size w w2 → Calls Tryz.prog 10 #[.string ⟨#[116, 114, 117, 101, 32, 116, 114, 117, 101]⟩] w2 (ParseAns w2 (.error (120, 5)))) :=
    Lib.hid (fun w2 hb => by have h := parse_c ⟨#[116, 114, 117, 101, 32, 116, 114, 117, 101]⟩ w2 (by decide) (hL.below hb); rw [wake2] at h; exact h)
  clear hL
  have heq := H.f_eql
  go_enter Tryz.func15, Tryz.ntmps15
  go_wp2_with (first
    | (go_at_call 18; refine (sameInts_any _ _ [1, 14, 11, 0] [1, 14, 11, 0] _ ((show IntsAt w2 vo [1, 14, 11, 0] from TR.out.offs.ints).below (((Below.refl _ w2).alloc (Nat.le_refl _) _).alloc (by simp) _)) (ints_litg _ _ _ _ rfl 4 _ rfl (by simp)) (by decide) (by decide)).mono ?_; rintro e w3 ⟨he, hB3⟩; rw [decide_eq_true rfl] at he; subst he; have hB4 : Below w2.heap.size w2 w3 := (((Below.refl _ w2).alloc (Nat.le_refl _) _).alloc (by simp) _).trans (hB3.mono (by simp; omega)); have ct : w3.cell? ⟨w2.heap.size, 0, none⟩ = some (.slice (some ⟨g, 0, none⟩) 4 4) := (cell_keep hB3 (by simp; omega) ((Lib.cell_of_heap ((Below.heap_alloc _ _ _ (by simp)).trans (Go.heap_alloc_new w2 _)) 0).trans rfl)); have d0 : w3.cell? ⟨g, 0, none⟩ = some (.int .i64 14) := cell_keep hB4 hgl (hc 0 (by decide)); have d1 : w3.cell? ⟨g, 1, none⟩ = some (.string ⟨#[122]⟩) := cell_keep hB4 hgl (hc 1 (by decide)); have d2 : w3.cell? ⟨g, 2, none⟩ = some (.int .i64 2) := cell_keep hB4 hgl (hc 2 (by decide)); have d3 : w3.cell? ⟨g, 3, none⟩ = some (.slice a0 0 c0) := cell_keep hB4 hgl (hc 3 (by decide)); have d8 : w3.cell? ⟨g, 8, none⟩ = some (.int .i64 6) := cell_keep hB4 hgl (hc 8 (by decide)); have d9 : w3.cell? ⟨g, 9, none⟩ = some (.string ⟨#[]⟩) := cell_keep hB4 hgl (hc 9 (by decide)); have d10 : w3.cell? ⟨g, 10, none⟩ = some (.int .i64 1) := cell_keep hB4 hgl (hc 10 (by decide)); have d11 : w3.cell? ⟨g, 11, none⟩ = some (.slice a2 2 c2) := cell_keep hB4 hgl (hc 11 (by decide)); have d12 : w3.cell? ⟨g, 12, none⟩ = some (.int .i64 3) := cell_keep hB4 hgl (hc 12 (by decide)); have hz3 : w2.heap.size < w3.heap.size := (by have := hB3.size; simp at this; omega); have hg3 : g < w3.heap.size := (by omega); have hg4 : ¬ g = w3.heap.size := (by omega); have hg5 : ¬ g = w3.heap.size + 1 := (by omega); have KI := Lib.hid ((show IntsAt w2 (.slice a2 2 c2) [0, 1] from kid_ints (TR.out.kids 2 (by decide))).below hB4); have HB3 := Lib.hid (HB2.out.trans (hB4.mono HB2.out.size)); clear hB3 hB4)
    | (go_at_call 10; refine P1.out.mono ?_; rintro e w2 ⟨hB2, vp, vo, kv, rfl, hT⟩; obtain ⟨g, rfl, hg, hgl, hc⟩ := hT.parts.form (by decide); obtain ⟨k0, k1, k2, k3, rfl⟩ := four_of hT.klen; obtain ⟨a0, c0, e0⟩ := own_form (hT.kids 0 (by decide)); obtain ⟨a2, c2, e2⟩ := own_form (hT.kids 2 (by decide)); obtain rfl : k0 = .slice a0 0 c0 := e0; obtain rfl : k2 = .slice a2 2 c2 := e2; have TR := Lib.hid hT; have HB2 := Lib.hid hB2; clear hB2 hT))
  go_region
  · go_wp2_with (first
      | (go_at_call 11; refine (show Calls Tryz.prog 11 #[.iface 64 (.pointer (some ⟨b, 0, none⟩))] w6 (fun e w' => e = .returned (.agg (H.fcells 120 5 ⟨#[]⟩)) ∧ Below w6.heap.size w6 w') from H.read_any _ (some (120, 5)) w6 (err_is HE6.out rfl)).mono ?_; rintro e w7 ⟨rfl, hB7⟩; have HB7 := Lib.hid (HB6.out.trans (hB7.mono HB6.out.size)); clear hB7)
      | (go_at_call 18; refine (sameInts_any _ _ [0, 1] [0, 1] _ (KI5.out.below (((Below.refl _ w5).alloc (Nat.le_refl _) _).alloc (by simp) _)) (ints_litg _ _ _ _ rfl 2 _ rfl (by simp)) (by decide) (by decide)).mono ?_; rintro e w6 ⟨he, hB6⟩; rw [decide_eq_true rfl] at he; subst he; have hB56 : Below w5.heap.size w5 w6 := (((Below.refl _ w5).alloc (Nat.le_refl _) _).alloc (by simp) _).trans (hB6.mono (by simp; omega)); have ct6 : w6.cell? ⟨w2.heap.size, 0, none⟩ = some (.slice (some ⟨g, 0, none⟩) 4 4) := cell_keep hB56 (by omega) ct5; have e12b : w6.cell? ⟨g, 12, none⟩ = some (.int .i64 3) := cell_keep hB56 (by omega) e12; have HE6 := Lib.hid ((hB56.block b HE.out.1).trans HE.out.2); have HB6 := Lib.hid (HB5.out.trans (hB56.mono HB5.out.size)); clear hB6 hB56)
      | (go_at_call 10; refine (P2.out _ (HB3.out.trans ((((Below.refl _ w3).alloc (Nat.le_refl _) _).alloc (by simp) _).drew.mono HB3.out.size))).mono ?_; rintro e w5 ⟨hB5, b, rfl, hb1, hb2⟩; have hB35 : Below w3.heap.size w3 w5 := (((Below.refl _ w3).alloc (Nat.le_refl _) _).alloc (by simp) _).drew.trans (hB5.mono (by simp; omega)); have hz5 : w3.heap.size + 1 < w5.heap.size := (by have := hB5.size; simp at this; omega); have ct5 : w5.cell? ⟨w2.heap.size, 0, none⟩ = some (.slice (some ⟨g, 0, none⟩) 4 4) := cell_keep hB35 (by omega) ct; have e12 : w5.cell? ⟨g, 12, none⟩ = some (.int .i64 3) := cell_keep hB35 (by omega) d12; have p0 : w5.cell? ⟨w3.heap.size, 0, none⟩ = some (.int .i64 14) := cell_keep hB5 (by simp <;> omega) ((Lib.cell_of_heap (w := (w3.alloc (.cells #[.int .i64 14, .string ⟨#[122]⟩, .int .i64 2, .slice a0 0 c0] 49)).alloc (.cells #[.int .i64 6, .string ⟨#[]⟩, .int .i64 1, .slice a2 2 c2] 49)) ((Below.heap_alloc _ _ _ (by simp)).trans (Go.heap_alloc_new w3 _)) 0).trans rfl); have p1 : w5.cell? ⟨w3.heap.size, 1, none⟩ = some (.string ⟨#[122]⟩) := cell_keep hB5 (by simp <;> omega) ((Lib.cell_of_heap (w := (w3.alloc (.cells #[.int .i64 14, .string ⟨#[122]⟩, .int .i64 2, .slice a0 0 c0] 49)).alloc (.cells #[.int .i64 6, .string ⟨#[]⟩, .int .i64 1, .slice a2 2 c2] 49)) ((Below.heap_alloc _ _ _ (by simp)).trans (Go.heap_alloc_new w3 _)) 1).trans rfl); have p2 : w5.cell? ⟨w3.heap.size, 2, none⟩ = some (.int .i64 2) := cell_keep hB5 (by simp <;> omega) ((Lib.cell_of_heap (w := (w3.alloc (.cells #[.int .i64 14, .string ⟨#[122]⟩, .int .i64 2, .slice a0 0 c0] 49)).alloc (.cells #[.int .i64 6, .string ⟨#[]⟩, .int .i64 1, .slice a2 2 c2] 49)) ((Below.heap_alloc _ _ _ (by simp)).trans (Go.heap_alloc_new w3 _)) 2).trans rfl); have p3 : w5.cell? ⟨w3.heap.size, 3, none⟩ = some (.slice a0 0 c0) := cell_keep hB5 (by simp <;> omega) ((Lib.cell_of_heap (w := (w3.alloc (.cells #[.int .i64 14, .string ⟨#[122]⟩, .int .i64 2, .slice a0 0 c0] 49)).alloc (.cells #[.int .i64 6, .string ⟨#[]⟩, .int .i64 1, .slice a2 2 c2] 49)) ((Below.heap_alloc _ _ _ (by simp)).trans (Go.heap_alloc_new w3 _)) 3).trans rfl); have q0 : w5.cell? ⟨w3.heap.size + 1, 0, none⟩ = some (.int .i64 6) := cell_keep hB5 (by simp <;> omega) ((Lib.cell_of_heap (w := (w3.alloc (.cells #[.int .i64 14, .string ⟨#[122]⟩, .int .i64 2, .slice a0 0 c0] 49)).alloc (.cells #[.int .i64 6, .string ⟨#[]⟩, .int .i64 1, .slice a2 2 c2] 49)) ((by have h := Go.heap_alloc_new (w3.alloc (.cells #[.int .i64 14, .string ⟨#[122]⟩, .int .i64 2, .slice a0 0 c0] 49)) (.cells #[.int .i64 6, .string ⟨#[]⟩, .int .i64 1, .slice a2 2 c2] 49); rw [World.size_alloc] at h; exact h)) 0).trans rfl); have q1 : w5.cell? ⟨w3.heap.size + 1, 1, none⟩ = some (.string ⟨#[]⟩) := cell_keep hB5 (by simp <;> omega) ((Lib.cell_of_heap (w := (w3.alloc (.cells #[.int .i64 14, .string ⟨#[122]⟩, .int .i64 2, .slice a0 0 c0] 49)).alloc (.cells #[.int .i64 6, .string ⟨#[]⟩, .int .i64 1, .slice a2 2 c2] 49)) ((by have h := Go.heap_alloc_new (w3.alloc (.cells #[.int .i64 14, .string ⟨#[122]⟩, .int .i64 2, .slice a0 0 c0] 49)) (.cells #[.int .i64 6, .string ⟨#[]⟩, .int .i64 1, .slice a2 2 c2] 49); rw [World.size_alloc] at h; exact h)) 1).trans rfl); have q2 : w5.cell? ⟨w3.heap.size + 1, 2, none⟩ = some (.int .i64 1) := cell_keep hB5 (by simp <;> omega) ((Lib.cell_of_heap (w := (w3.alloc (.cells #[.int .i64 14, .string ⟨#[122]⟩, .int .i64 2, .slice a0 0 c0] 49)).alloc (.cells #[.int .i64 6, .string ⟨#[]⟩, .int .i64 1, .slice a2 2 c2] 49)) ((by have h := Go.heap_alloc_new (w3.alloc (.cells #[.int .i64 14, .string ⟨#[122]⟩, .int .i64 2, .slice a0 0 c0] 49)) (.cells #[.int .i64 6, .string ⟨#[]⟩, .int .i64 1, .slice a2 2 c2] 49); rw [World.size_alloc] at h; exact h)) 2).trans rfl); have q3 : w5.cell? ⟨w3.heap.size + 1, 3, none⟩ = some (.slice a2 2 c2) := cell_keep hB5 (by simp <;> omega) ((Lib.cell_of_heap (w := (w3.alloc (.cells #[.int .i64 14, .string ⟨#[122]⟩, .int .i64 2, .slice a0 0 c0] 49)).alloc (.cells #[.int .i64 6, .string ⟨#[]⟩, .int .i64 1, .slice a2 2 c2] 49)) ((by have h := Go.heap_alloc_new (w3.alloc (.cells #[.int .i64 14, .string ⟨#[122]⟩, .int .i64 2, .slice a0 0 c0] 49)) (.cells #[.int .i64 6, .string ⟨#[]⟩, .int .i64 1, .slice a2 2 c2] 49); rw [World.size_alloc] at h; exact h)) 3).trans rfl); have KI5 := Lib.hid (KI.out.below hB35); have HE := Lib.hid (And.intro (Array.getElem?_eq_some_iff.1 hb2).1 hb2); have HB5 := Lib.hid (HB3.out.trans (hB35.mono HB3.out.size)); have hg6 : g < w5.heap.size := (by omega); have hq0 : w3.heap.size < w5.heap.size := (by omega); have hq2 : w2.heap.size < w5.heap.size := (by omega); clear hB5 hB35 hb1 hb2))
    go_ret
    exact ⟨rfl, HB7.out⟩
  · go_wp2_with (first
      | (go_at_call 11; refine (show Calls Tryz.prog 11 #[.iface 64 (.pointer (some ⟨b, 0, none⟩))] w6 (fun e w' => e = .returned (.agg (H.fcells 120 5 ⟨#[]⟩)) ∧ Below w6.heap.size w6 w') from H.read_any _ (some (120, 5)) w6 (err_is HE6.out rfl)).mono ?_; rintro e w7 ⟨rfl, hB7⟩; have HB7 := Lib.hid (HB6.out.trans (hB7.mono HB6.out.size)); clear hB7)
      | (go_at_call 18; refine (sameInts_any _ _ [0, 1] [0, 1] _ (KI5.out.below (((Below.refl _ w5).alloc (Nat.le_refl _) _).alloc (by simp) _)) (ints_litg _ _ _ _ rfl 2 _ rfl (by simp)) (by decide) (by decide)).mono ?_; rintro e w6 ⟨he, hB6⟩; rw [decide_eq_true rfl] at he; subst he; have hB56 : Below w5.heap.size w5 w6 := (((Below.refl _ w5).alloc (Nat.le_refl _) _).alloc (by simp) _).trans (hB6.mono (by simp; omega)); have ct6 : w6.cell? ⟨w2.heap.size, 0, none⟩ = some (.slice (some ⟨g, 0, none⟩) 4 4) := cell_keep hB56 (by omega) ct5; have e12b : w6.cell? ⟨g, 12, none⟩ = some (.int .i64 3) := cell_keep hB56 (by omega) e12; have HE6 := Lib.hid ((hB56.block b HE.out.1).trans HE.out.2); have HB6 := Lib.hid (HB5.out.trans (hB56.mono HB5.out.size)); clear hB6 hB56)
      | (go_at_call 10; refine (P2.out _ (HB3.out.trans ((((Below.refl _ w3).alloc (Nat.le_refl _) _).alloc (by simp) _).drew.mono HB3.out.size))).mono ?_; rintro e w5 ⟨hB5, b, rfl, hb1, hb2⟩; have hB35 : Below w3.heap.size w3 w5 := (((Below.refl _ w3).alloc (Nat.le_refl _) _).alloc (by simp) _).drew.trans (hB5.mono (by simp; omega)); have hz5 : w3.heap.size + 1 < w5.heap.size := (by have := hB5.size; simp at this; omega); have ct5 : w5.cell? ⟨w2.heap.size, 0, none⟩ = some (.slice (some ⟨g, 0, none⟩) 4 4) := cell_keep hB35 (by omega) ct; have e12 : w5.cell? ⟨g, 12, none⟩ = some (.int .i64 3) := cell_keep hB35 (by omega) d12; have p0 : w5.cell? ⟨w3.heap.size + 1, 0, none⟩ = some (.int .i64 14) := cell_keep hB5 (by simp <;> omega) ((Lib.cell_of_heap (w := (w3.alloc (.cells #[.int .i64 6, .string ⟨#[]⟩, .int .i64 1, .slice a2 2 c2] 49)).alloc (.cells #[.int .i64 14, .string ⟨#[122]⟩, .int .i64 2, .slice a0 0 c0] 49)) ((by have h := Go.heap_alloc_new (w3.alloc (.cells #[.int .i64 6, .string ⟨#[]⟩, .int .i64 1, .slice a2 2 c2] 49)) (.cells #[.int .i64 14, .string ⟨#[122]⟩, .int .i64 2, .slice a0 0 c0] 49); rw [World.size_alloc] at h; exact h)) 0).trans rfl); have p1 : w5.cell? ⟨w3.heap.size + 1, 1, none⟩ = some (.string ⟨#[122]⟩) := cell_keep hB5 (by simp <;> omega) ((Lib.cell_of_heap (w := (w3.alloc (.cells #[.int .i64 6, .string ⟨#[]⟩, .int .i64 1, .slice a2 2 c2] 49)).alloc (.cells #[.int .i64 14, .string ⟨#[122]⟩, .int .i64 2, .slice a0 0 c0] 49)) ((by have h := Go.heap_alloc_new (w3.alloc (.cells #[.int .i64 6, .string ⟨#[]⟩, .int .i64 1, .slice a2 2 c2] 49)) (.cells #[.int .i64 14, .string ⟨#[122]⟩, .int .i64 2, .slice a0 0 c0] 49); rw [World.size_alloc] at h; exact h)) 1).trans rfl); have p2 : w5.cell? ⟨w3.heap.size + 1, 2, none⟩ = some (.int .i64 2) := cell_keep hB5 (by simp <;> omega) ((Lib.cell_of_heap (w := (w3.alloc (.cells #[.int .i64 6, .string ⟨#[]⟩, .int .i64 1, .slice a2 2 c2] 49)).alloc (.cells #[.int .i64 14, .string ⟨#[122]⟩, .int .i64 2, .slice a0 0 c0] 49)) ((by have h := Go.heap_alloc_new (w3.alloc (.cells #[.int .i64 6, .string ⟨#[]⟩, .int .i64 1, .slice a2 2 c2] 49)) (.cells #[.int .i64 14, .string ⟨#[122]⟩, .int .i64 2, .slice a0 0 c0] 49); rw [World.size_alloc] at h; exact h)) 2).trans rfl); have p3 : w5.cell? ⟨w3.heap.size + 1, 3, none⟩ = some (.slice a0 0 c0) := cell_keep hB5 (by simp <;> omega) ((Lib.cell_of_heap (w := (w3.alloc (.cells #[.int .i64 6, .string ⟨#[]⟩, .int .i64 1, .slice a2 2 c2] 49)).alloc (.cells #[.int .i64 14, .string ⟨#[122]⟩, .int .i64 2, .slice a0 0 c0] 49)) ((by have h := Go.heap_alloc_new (w3.alloc (.cells #[.int .i64 6, .string ⟨#[]⟩, .int .i64 1, .slice a2 2 c2] 49)) (.cells #[.int .i64 14, .string ⟨#[122]⟩, .int .i64 2, .slice a0 0 c0] 49); rw [World.size_alloc] at h; exact h)) 3).trans rfl); have q0 : w5.cell? ⟨w3.heap.size, 0, none⟩ = some (.int .i64 6) := cell_keep hB5 (by simp <;> omega) ((Lib.cell_of_heap (w := (w3.alloc (.cells #[.int .i64 6, .string ⟨#[]⟩, .int .i64 1, .slice a2 2 c2] 49)).alloc (.cells #[.int .i64 14, .string ⟨#[122]⟩, .int .i64 2, .slice a0 0 c0] 49)) ((Below.heap_alloc _ _ _ (by simp)).trans (Go.heap_alloc_new w3 _)) 0).trans rfl); have q1 : w5.cell? ⟨w3.heap.size, 1, none⟩ = some (.string ⟨#[]⟩) := cell_keep hB5 (by simp <;> omega) ((Lib.cell_of_heap (w := (w3.alloc (.cells #[.int .i64 6, .string ⟨#[]⟩, .int .i64 1, .slice a2 2 c2] 49)).alloc (.cells #[.int .i64 14, .string ⟨#[122]⟩, .int .i64 2, .slice a0 0 c0] 49)) ((Below.heap_alloc _ _ _ (by simp)).trans (Go.heap_alloc_new w3 _)) 1).trans rfl); have q2 : w5.cell? ⟨w3.heap.size, 2, none⟩ = some (.int .i64 1) := cell_keep hB5 (by simp <;> omega) ((Lib.cell_of_heap (w := (w3.alloc (.cells #[.int .i64 6, .string ⟨#[]⟩, .int .i64 1, .slice a2 2 c2] 49)).alloc (.cells #[.int .i64 14, .string ⟨#[122]⟩, .int .i64 2, .slice a0 0 c0] 49)) ((Below.heap_alloc _ _ _ (by simp)).trans (Go.heap_alloc_new w3 _)) 2).trans rfl); have q3 : w5.cell? ⟨w3.heap.size, 3, none⟩ = some (.slice a2 2 c2) := cell_keep hB5 (by simp <;> omega) ((Lib.cell_of_heap (w := (w3.alloc (.cells #[.int .i64 6, .string ⟨#[]⟩, .int .i64 1, .slice a2 2 c2] 49)).alloc (.cells #[.int .i64 14, .string ⟨#[122]⟩, .int .i64 2, .slice a0 0 c0] 49)) ((Below.heap_alloc _ _ _ (by simp)).trans (Go.heap_alloc_new w3 _)) 3).trans rfl); have KI5 := Lib.hid (KI.out.below hB35); have HE := Lib.hid (And.intro (Array.getElem?_eq_some_iff.1 hb2).1 hb2); have HB5 := Lib.hid (HB3.out.trans (hB35.mono HB3.out.size)); have hg6 : g < w5.heap.size := (by omega); have hq0 : w3.heap.size < w5.heap.size := (by omega); have hq2 : w2.heap.size < w5.heap.size := (by omega); clear hB5 hB35 hb1 hb2))
    go_ret
    exact ⟨rfl, HB7.out⟩

end Go.Proofs.YtfiljgkcipnghaaGreatDoor.X
