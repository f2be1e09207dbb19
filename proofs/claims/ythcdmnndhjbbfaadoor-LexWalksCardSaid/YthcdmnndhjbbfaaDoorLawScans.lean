/-
  The walk of LexScans.
-/
import Derived.Test.YthcdmnndhjbbfaaDoorFixed
import Derived.Test.YthcdmnndhjbbfaaDoorLexY
set_option linter.unusedVariables false
set_option linter.unusedSimpArgs false
namespace Go.Proofs.YthcdmnndhjbbfaaDoor.X
open Go.RowKit
theorem cell_keeps' {w w' : World} {a : Addr} {v : Value} (h : Below w.heap.size w w') (hc : w.cell? a = some v) : w'.cell? a = some v := (h.cell (World.block_lt_of_cell? _ _ hc)).trans hc
/-- A row of strings that came in. -/
def StrsAt' (w : World) (v : Value) (ss : List ByteArray) : Prop :=
  (v = .slice none 0 0 ∧ ss = []) ∨ ∃ a cap, v = .slice (some a) ss.length cap ∧ ∀ i (h : i < ss.length), w.cell? (a.add i) = some (.string ss[i])
theorem scan_len (l : Bs) : (scanL l).1.length ≤ 4097 := by
  have := prefix_len l
  unfold scanL
  split <;> simp_all
theorem scan_code {l : Bs} {c : Int} {a : Nat} (h : (scanL l).2 = some (c, a)) : c ≠ 0 := by
  unfold scanL at h
  split at h
  · exact prefix_code (l := l) (ts := (prefixL l).1) (Prod.ext rfl h)
  · exact prefix_code (l := l) (ts := (prefixL l).1) (Prod.ext rfl h)
theorem scan_cases (l : Bs) : (∃ ts, scanL l = (ts, none) ∧ ts.length ≤ 4097) ∨ (∃ c a, scanL l = ([], some (c, a)) ∧ c ≠ 0) := by
  have hl := scan_len l
  have hc := @scan_code l
  cases hf : (scanL l).2 with
  | none => exact .inl ⟨_, Prod.ext rfl hf, hl⟩
  | some f =>
    obtain ⟨c, a⟩ := f
    refine .inr ⟨c, a, ?_, hc hf⟩
    unfold scanL at hf ⊢
    split at hf
    · rename_i h; rw [if_pos h]; exact Prod.ext rfl hf
    · rename_i h; rw [hf] at h; exact absurd rfl h

set_option maxHeartbeats 8000000 in
set_option maxRecDepth 100000 in
theorem lexScans_row (a : Addr) (cap : Nat) (ss : List ByteArray) (w : World) (hl : ss.length ≤ 9223372036854775807) (hs : ∀ s ∈ ss, s.size ≤ 9223372036854775807) (hcell : ∀ i (h : i < ss.length), w.cell? (a.add i) = some (.string ss[i])) (hL : LW w) :
    Calls Tryd.prog 4 #[.slice (some a) ss.length cap] w fun e w' => e = .returned (.bool true) ∧ Below w.heap.size w w' := by
  have HC := Lib.hid hcell
  have HS := Lib.hid hs
  have HL := Lib.hid hL
  clear hcell hs hL
  go_enter Tryd.func4, Tryd.ntmps4
  go_wp2_with (go_at_call 17; refine (fixed_any _ HL.out).mono ?_; rintro e w5 ⟨rfl, hF⟩)
  go_loopw [14] (fun j wr => ∃ k : Nat, k ≤ ss.length ∧ j = .int .i64 k ∧ Hid (Below w.heap.size w wr)) (fun j _ => ss.length - (intOf j).toNat)
  case atStart => exact ⟨0, Nat.zero_le _, rfl, Lib.hid hF⟩
  case round =>
    obtain ⟨k, hk, rfl, HB⟩ := hrel
    clear hF
    by_cases hlt : k < ss.length
    · have hc : wr.cell? (a.add k) = some (.string ss[k]) := cell_keeps' HB.out (HC.out k hlt)
      have hsz := HS.out ss[k] (List.getElem_mem hlt)
      have hbs := HB.out.size
      have HLr := Lib.hid (HL.out.below HB.out)
      have S1 := Lib.hid (fun W h => scan_any ss[k] W hsz h)
      have S2 := Lib.hid (fun W => refScan_any ss[k] W hsz)
      have HCS := Lib.hid (scan_cases ss[k].data.toList)
      generalize ss[k] = s at hc S1 S2 HCS
      clear hsz HC HS HL
      rcases HCS.out with ⟨ts, hr, hlen⟩ | ⟨c, at_, hr, hc0⟩
      · rw [hr] at S1 S2
        clear hr HCS
        go_wp2_with (first
          | (go_at_call 18; refine (S1.out _ HLr.out).mono ?_; rintro e w1 ⟨hB1, v1, hO1, rfl⟩; have HB1 := Lib.hid hB1; have HO1 := Lib.hid (tokAt_of_own hO1); clear hB1 hO1)
          | (go_at_call 19; refine (S2.out _).mono ?_; rintro e w2 ⟨v2, hO2, hB2, rfl⟩; have HB2 := Lib.hid hB2; have HO2 := Lib.hid (tokAt_of_own hO2); clear hB2 hO2; simp only [codeOf, placeOf])
          | (go_at_call 20; refine (same_any _ _ ts ts _ (HO1.out.kept HB2.out) HO2.out (by omega) (by omega)).mono ?_; rintro e w3 ⟨he, hB3⟩; rw [decide_eq_true rfl] at he; subst he; have HB3 := Lib.hid hB3; clear hB3)
          | (go_at_call 16; refine (isFault_nil _ _).mono ?_; rintro e w6 ⟨rfl, rfl⟩))
        refine ⟨⟨k + 1, hlt, by simp, Lib.hid ?_⟩, by simp [intOf]; omega⟩
        exact HB.out.trans ((HB1.out.trans ((HB2.out.trans (HB3.out.mono HB2.out.size)).mono HB1.out.size)).mono hbs)
      · rw [hr] at S1 S2
        clear hr HCS
        go_wp2_with (first
          | (go_at_call 18; refine (S1.out _ HLr.out).mono ?_; rintro e w1 ⟨hB1, b, rfl, hb1, hb2⟩; have HB1 := Lib.hid hB1; have HF1 := Lib.hid hb2; clear hB1 hb2)
          | (go_at_call 19; refine (S2.out _).mono ?_; rintro e w2 ⟨v2, hO2, hB2, rfl⟩; have HB2 := Lib.hid hB2; have HO2 := Lib.hid (tokAt_of_own hO2); clear hB2 hO2; simp only [codeOf, placeOf])
          | (go_at_call 20; refine (same_any _ _ [] [] _ (.inl ⟨rfl, rfl⟩) HO2.out (by simp) (by simp)).mono ?_; rintro e w3 ⟨he, hB3⟩; rw [decide_eq_true rfl] at he; subst he; have HB3 := Lib.hid hB3; clear hB3)
          | (go_at_call 16; refine (isFault_some b c at_ hc0 _ ((HB3.out.block b (Array.getElem?_eq_some_iff.1 ((HB2.out.block b (Array.getElem?_eq_some_iff.1 HF1.out).1).trans HF1.out)).1).trans ((HB2.out.block b (Array.getElem?_eq_some_iff.1 HF1.out).1).trans HF1.out))).mono ?_; rintro e w6 ⟨rfl, rfl⟩))
        refine ⟨⟨k + 1, hlt, by simp, Lib.hid ?_⟩, by simp [intOf]; omega⟩
        exact HB.out.trans ((HB1.out.trans ((HB2.out.trans (HB3.out.mono HB2.out.size)).mono HB1.out.size)).mono hbs)
    · have hI : ¬ ((k : Int) < (ss.length : Int)) := by omega
      go_wp2
      go_ret
      exact ⟨rfl, HB.out⟩

set_option maxHeartbeats 4000000 in
set_option maxRecDepth 100000 in
theorem lexScans_any (v : Value) (ss : List ByteArray) (w : World) (hl : ss.length ≤ 9223372036854775807) (hs : ∀ s ∈ ss, s.size ≤ 9223372036854775807) (hv : StrsAt' w v ss) (hL : LW w) :
    Calls Tryd.prog 4 #[v] w fun e w' => e = .returned (.bool true) ∧ Below w.heap.size w w' := by
  rcases hv with ⟨rfl, rfl⟩ | ⟨a, cap, rfl, hc⟩
  · go_enter Tryd.func4, Tryd.ntmps4
    go_wp2_with (go_at_call 17; refine (fixed_any _ hL).mono ?_; rintro e w5 ⟨rfl, hF⟩)
    go_loopw [14] (fun j wr => j = .int .i64 0 ∧ Hid (Below w.heap.size w wr)) (fun j _ => 0)
    case atStart => exact ⟨rfl, Lib.hid hF⟩
    case round =>
      obtain ⟨rfl, HB⟩ := hrel
      go_wp2
      go_ret
      exact ⟨rfl, HB.out⟩
  · exact lexScans_row a cap ss w hl hs hc hL

end Go.Proofs.YthcdmnndhjbbfaaDoor.X
