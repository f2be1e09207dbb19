/-
  The walk of LexQuotes.
-/
import Derived.Test.YthcdmnndhjbbfaaDoorLexF
set_option linter.unusedVariables false
set_option linter.unusedSimpArgs false
namespace Go.Proofs.YthcdmnndhjbbfaaDoor.X
open Go.RowKit

theorem text_code {i : Nat} {R : StrR} {c : Int} {a : Nat} (h : strRes i R = .error (c, a)) : c ≠ 0 := by
  cases R with
  | open_ => cases h; decide
  | byte p => cases h; decide
  | esc p => cases h; decide
  | done b e =>
    simp only [strRes] at h
    split at h
    · cases h; decide
    · cases h
theorem unq_code {l : Bs} {c : Int} {a : Nat} (h : unqL l = .error (c, a)) : c ≠ 0 := by
  unfold unqL at h
  split at h
  · cases h; decide
  · split at h
    · cases hr : textAt l 0 with
      | error f =>
        obtain ⟨c2, a2⟩ := f
        rw [hr] at h
        simp only [unqC] at h
        cases h
        rw [textAt_eq] at hr
        exact text_code hr
      | ok t =>
        rw [hr] at h
        simp only [unqC] at h
        split at h
        · cases h; decide
        · cases h
    · cases h; decide
theorem cell_keeps {w w' : World} {a : Addr} {v : Value} (h : Below w.heap.size w w') (hc : w.cell? a = some v) : w'.cell? a = some v := (h.cell (World.block_lt_of_cell? _ _ hc)).trans hc
/-- A row of strings that came in. -/
def StrsAt (w : World) (v : Value) (ss : List ByteArray) : Prop :=
  (v = .slice none 0 0 ∧ ss = []) ∨ ∃ a cap, v = .slice (some a) ss.length cap ∧ ∀ i (h : i < ss.length), w.cell? (a.add i) = some (.string ss[i])

set_option maxHeartbeats 8000000 in
set_option maxRecDepth 100000 in
theorem lexQuotes_row (a : Addr) (cap : Nat) (ss : List ByteArray) (w : World) (hl : ss.length ≤ 1000000000000) (hs : ∀ s ∈ ss, s.size ≤ 1000000000000) (hcell : ∀ i (h : i < ss.length), w.cell? (a.add i) = some (.string ss[i])) :
    Calls Tryd.prog 3 #[.slice (some a) ss.length cap] w fun e w' => e = .returned (.bool true) ∧ Below w.heap.size w w' := by
  have HC := Lib.hid hcell
  have HS := Lib.hid hs
  clear hcell hs
  go_enter Tryd.func3, Tryd.ntmps3
  go_wp2_with (go_at_call 11; refine (fixedQuote_any _).mono ?_; rintro e w5 ⟨rfl, hF⟩)
  go_loopw [14] (fun j wr => ∃ k : Nat, k ≤ ss.length ∧ j = .int .i64 k ∧ Hid (Below w.heap.size w wr)) (fun j _ => ss.length - (intOf j).toNat)
  case atStart => exact ⟨0, Nat.zero_le _, rfl, Lib.hid hF⟩
  case round =>
    obtain ⟨k, hk, rfl, HB⟩ := hrel
    clear hF
    by_cases hlt : k < ss.length
    · have hc : wr.cell? (a.add k) = some (.string ss[k]) := cell_keeps HB.out (HC.out k hlt)
      have hsz := HS.out ss[k] (List.getElem_mem hlt)
      have hbs := HB.out.size
      have Q1 := Lib.hid (fun W => quote_any ss[k] W hsz)
      have Q2 := Lib.hid (fun W => refQuote_any ss[k] W hsz)
      have U1 := Lib.hid (fun W => unquote_any ss[k] W hsz)
      have U2 := Lib.hid (fun W => refUnquote_any ss[k] W hsz)
      generalize ss[k] = s at hc Q1 Q2 U1 U2
      clear hsz HC HS
      cases hu : unqL s.data.toList with
      | ok b =>
        rw [hu] at U1 U2
        simp only [unqV] at U2
        clear hu
        go_wp2_with (first
          | (go_at_call 12; refine (Q1.out _).mono ?_; rintro e w1 ⟨rfl, h1⟩)
          | (go_at_call 13; refine (Q2.out _).mono ?_; rintro e w2 ⟨rfl, h2⟩)
          | (go_at_call 14; refine (U1.out _).mono ?_; rintro e w3 ⟨rfl, h3⟩)
          | (go_at_call 15; refine (U2.out _).mono ?_; rintro e w4 ⟨rfl, h4⟩)
          | (go_at_call 16; refine (isFault_nil _ _).mono ?_; rintro e w6 ⟨rfl, rfl⟩))
        refine ⟨⟨k + 1, hlt, by simp, Lib.hid ?_⟩, by simp [intOf]; omega⟩
        exact HB.out.trans ((h1.trans ((h2.trans ((h3.trans (h4.mono h3.size)).mono h2.size)).mono h1.size)).mono hbs)
      | error f =>
        obtain ⟨c, at_⟩ := f
        have hc0 := unq_code hu
        rw [hu] at U1 U2
        simp only [unqV] at U2
        clear hu
        go_wp2_with (first
          | (go_at_call 12; refine (Q1.out _).mono ?_; rintro e w1 ⟨rfl, h1⟩)
          | (go_at_call 13; refine (Q2.out _).mono ?_; rintro e w2 ⟨rfl, h2⟩)
          | (go_at_call 14; refine (U1.out _).mono ?_; rintro e w3 ⟨b, rfl, hb1, hb2, h3⟩)
          | (go_at_call 15; refine (U2.out _).mono ?_; rintro e w4 ⟨rfl, h4⟩; have hf4 := (h4.block b (Array.getElem?_eq_some_iff.1 hb2).1).trans hb2)
          | (go_at_call 16; refine (isFault_some b c at_ hc0 _ hf4).mono ?_; rintro e w6 ⟨rfl, rfl⟩))
        refine ⟨⟨k + 1, hlt, by simp, Lib.hid ?_⟩, by simp [intOf]; omega⟩
        exact HB.out.trans ((h1.trans ((h2.trans ((h3.trans (h4.mono h3.size)).mono h2.size)).mono h1.size)).mono hbs)
    · have hI : ¬ ((k : Int) < (ss.length : Int)) := by omega
      go_wp2
      go_ret
      exact ⟨rfl, HB.out⟩

set_option maxHeartbeats 4000000 in
set_option maxRecDepth 100000 in
theorem lexQuotes_any (v : Value) (ss : List ByteArray) (w : World) (hl : ss.length ≤ 1000000000000) (hs : ∀ s ∈ ss, s.size ≤ 1000000000000) (hv : StrsAt w v ss) :
    Calls Tryd.prog 3 #[v] w fun e w' => e = .returned (.bool true) ∧ Below w.heap.size w w' := by
  rcases hv with ⟨rfl, rfl⟩ | ⟨a, cap, rfl, hc⟩
  · go_enter Tryd.func3, Tryd.ntmps3
    go_wp2_with (go_at_call 11; refine (fixedQuote_any _).mono ?_; rintro e w5 ⟨rfl, hF⟩)
    go_loopw [14] (fun j wr => j = .int .i64 0 ∧ Hid (Below w.heap.size w wr)) (fun j _ => 0)
    case atStart => exact ⟨rfl, Lib.hid hF⟩
    case round =>
      obtain ⟨rfl, HB⟩ := hrel
      go_wp2
      go_ret
      exact ⟨rfl, HB.out⟩
  · exact lexQuotes_row a cap ss w hl hs hc
end Go.Proofs.YthcdmnndhjbbfaaDoor.X
