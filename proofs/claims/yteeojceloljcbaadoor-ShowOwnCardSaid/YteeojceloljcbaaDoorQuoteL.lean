/-
  The plain law of the texts in quotes: both Quotes write quoteT.
-/
import Derived.Test.YteeojceloljcbaaDoorRenderL
import Derived.Test.YteeojceloljcbaaDoorKWords
set_option linter.unusedVariables false
set_option linter.unusedSimpArgs false
namespace Go.Proofs.YteeojceloljcbaaDoor.P
open Go.RowKit Go.Proofs.YteeojceloljcbaaDoorW.PrintWords Go.Proofs.YteeojceloljcbaaDoorW.PrintLast
/-- Bytes as numbers. -/
def nums8 (l : Bs) : List Int := l.map fun b => (b.toNat : Int)
theorem strOfNums_nums8 (l : Bs) : strOfNums (nums8 l) = ⟨l.toArray⟩ := by
  unfold strOfNums nums8
  rw [List.map_map]
  have : ((fun n : Int => UInt8.ofNat n.toNat) ∘ fun b : UInt8 => (b.toNat : Int)) = id := by
    funext b; simp
  rw [this, List.map_id]
theorem nums8_append (a b : Bs) : nums8 (a ++ b) = nums8 a ++ nums8 b := by simp [nums8]
theorem bt_byte (s : ByteArray) (i : Nat) (h : i < s.data.toList.length) : bt s (i : Int) = ((s.data.toList[i]).toNat : Int) := by
  have h' : i < s.size := by rw [Array.length_toList] at h; exact h
  simp only [bt, Int.toNat_natCast, h', dif_pos]
  rfl
def hexS : ByteArray := ⟨#[48, 49, 50, 51, 52, 53, 54, 55, 56, 57, 97, 98, 99, 100, 101, 102]⟩
theorem hex_at : ∀ n : Fin 16, bt hexS (n.val : Int) = ((hexT n.val.toUInt8).toNat : Int) := by decide +kernel
theorem hex_div (x : UInt8) : bt hexS ((x.toNat : Int) / 16) = ((hexT (x / 16)).toNat : Int) := by
  have hlt := x.toNat_lt
  have h := hex_at ⟨x.toNat / 16, by omega⟩
  have e1 : ((x.toNat : Int) / 16) = ((x.toNat / 16 : Nat) : Int) := by omega
  rw [e1, h]
  have : (x.toNat / 16).toUInt8 = x / 16 := by
    apply UInt8.toNat_inj.1; simp; omega
  simp only [this]
theorem hex_mod (x : UInt8) : bt hexS ((x.toNat : Int) % 16) = ((hexT (x % 16)).toNat : Int) := by
  have hlt := x.toNat_lt
  have h := hex_at ⟨x.toNat % 16, by omega⟩
  have e1 : ((x.toNat : Int) % 16) = ((x.toNat % 16 : Nat) : Int) := by omega
  rw [e1, h]
  have : (x.toNat % 16).toUInt8 = x % 16 := by
    apply UInt8.toNat_inj.1; simp; omega
  simp only [this]
theorem u8_eq (x : UInt8) (n : Nat) (h : n < 256) : ((x.toNat : Int) = (n : Int)) ↔ x = n.toUInt8 := by
  constructor
  · intro e
    have : x.toNat = n := by omega
    apply UInt8.toNat_inj.1
    rw [this]; simp; omega
  · rintro rfl; simp; omega
theorem wrap_succ (i : Nat) (h : i ≤ 140737488355328) : wrap64 ((i : Int) + 1) = ((i + 1 : Nat) : Int) := by unfold wrap64; omega
theorem qbyte_len (x : UInt8) : (qbyte x).length ≤ 4 := by unfold qbyte; repeat' split
                                                           all_goals simp
/-- One round of lex.Quote. -/
theorem quote_round (s : ByteArray) (buf : List Int) (i : Nat) (hi : i < s.data.toList.length) (hb : buf.length + 4 < 140737488355328) (hs : i ≤ 140737488355328) (r : ByteArray)
    (h : Ev (fun k => lex_Quote.l0 k s (buf ++ nums8 (qbyte s.data.toList[i])) ((i + 1 : Nat) : Int)) r) : Ev (fun k => lex_Quote.l0 k s buf (i : Int)) r := by
  have hsz : (i : Int) < (s.size : Int) := by rw [Array.length_toList] at hi; exact Int.ofNat_lt.2 hi
  have hi0 : (0 : Int) ≤ (i : Int) := by omega
  have hx := bt_byte s i hi
  generalize s.data.toList[i] = x at hx h
  have hlt := x.toNat_lt
  have hj : ∀ (b : Bool), b = decide (x = 34 ∨ x = 92) → Ev (fun k => lex_Quote.j1 k s buf (i : Int) (x.toNat : Int) b) r := by
    intro b hbb
    by_cases h1 : x = 34 ∨ x = 92
    · have hb1 : b = true := by rw [hbb]; simpa using h1
      subst hb1
      refine Ev.step (f := fun k => lex_Quote.l0 k s (buf ++ nums8 (qbyte x)) ((i + 1 : Nat) : Int)) (fun k => ?_) h
      simp only [lex_Quote.j1, if_true, Option.bind_some, List.length_cons, List.length_nil]
      rw [if_pos (by omega), wrap_succ i hs]
      simp [qbyte, h1, nums8]
    · have hb1 : b = false := by rw [hbb]; simpa using h1
      subst hb1
      have n34 : x ≠ 34 := fun e => h1 (.inl e)
      have n92 : x ≠ 92 := fun e => h1 (.inr e)
      refine Ev.step (f := fun k => lex_Quote.l0 k s (buf ++ nums8 (qbyte x)) ((i + 1 : Nat) : Int)) (fun k => ?_) h
      have e10 : ((x.toNat : Int) = 10) ↔ x = 10 := u8_eq x 10 (by decide)
      have e9 : ((x.toNat : Int) = 9) ↔ x = 9 := u8_eq x 9 (by decide)
      have e13 : ((x.toNat : Int) = 13) ↔ x = 13 := u8_eq x 13 (by decide)
      have e32 : ((x.toNat : Int) < 32) ↔ x < 32 := by rw [UInt8.lt_iff_toNat_lt]; simp; omega
      have e126 : ((x.toNat : Int) > 126) ↔ 126 < x := by rw [UInt8.lt_iff_toNat_lt]; simp; omega
      have a15 : Go.bits .and .u8 (x.toNat : Int) 15 = (x.toNat : Int) % 16 := u8_and15 _ (by omega) (by omega)
      have d1 : (0 : Int) ≤ (x.toNat : Int) / 16 := by omega
      have d2 : (x.toNat : Int) / 16 < 16 := by omega
      have d3 : (0 : Int) ≤ (x.toNat : Int) % 16 := by omega
      have d4 : (x.toNat : Int) % 16 < 16 := by omega
      have hx1 := hex_div x
      have hx2 := hex_mod x
      unfold hexS at hx1 hx2
      have b1 : buf.length < 140737488355328 := by omega
      have b2 : buf.length + (0 + 1 + 1) < 140737488355328 := by omega
      have b4 : buf.length + (0 + 1 + 1 + 1 + 1) < 140737488355328 := by omega
      simp only [lex_Quote.j1, Bool.false_eq_true, if_false, Option.bind_some, List.length_cons, List.length_nil, e10, e9, e13, e32, e126, a15, d1, d2, d3, d4, if_true, hx1, hx2, wrap_succ i hs, b1, b2, b4]
      unfold qbyte
      rw [if_neg h1]
      by_cases c10 : x = 10
      · subst c10; simp [nums8]
      · by_cases c9 : x = 9
        · subst c9; simp [nums8]
        · by_cases c13 : x = 13
          · subst c13; simp [nums8]
          · by_cases c32 : x < 32
            · simp [c10, c9, c13, c32, nums8]
            · by_cases c126 : 126 < x
              · simp [c10, c9, c13, c32, c126, nums8]
              · simp [c10, c9, c13, c32, c126, nums8]
  refine Ev.step (f := fun k => lex_Quote.j1 k s buf (i : Int) (x.toNat : Int) (decide (x = 34 ∨ x = 92))) (fun k => ?_) (hj _ rfl)
  simp only [lex_Quote.l0, if_pos hsz, if_pos hi0, hx]
  have e34 : ((x.toNat : Int) = 34) ↔ x = 34 := u8_eq x 34 (by decide)
  have e92 : ((x.toNat : Int) = 92) ↔ x = 92 := u8_eq x 92 (by decide)
  by_cases c34 : x = 34
  · simp [e34, c34]
  · have : ((x.toNat : Int) == 92) = decide (x = 92) := by rw [Bool.eq_iff_iff]; simp [e92]
    simp [e34, c34, this]

theorem quote_loop (s : ByteArray) (hs : s.data.toList.length ≤ 2000000) : ∀ (d i : Nat) (buf : List Int), d = s.data.toList.length - i → i ≤ s.data.toList.length → buf.length + 4 * d < 140737488355320 →
    Ev (fun k => lex_Quote.l0 k s buf (i : Int)) (strOfNums (buf ++ (nums8 ((s.data.toList.drop i).flatMap qbyte) ++ [34])))
  | 0, i, buf, hd, hi, hb => by
    obtain rfl : i = s.data.toList.length := by omega
    have hsz : ¬ ((s.data.toList.length : Nat) : Int) < (s.size : Int) := by rw [Array.length_toList]; exact Int.not_lt.2 (Int.le_refl _)
    refine Ev.step (f := fun _ => some (strOfNums (buf ++ [34]))) (fun k => ?_) ?_
    · simp only [lex_Quote.l0, if_neg hsz]
      rw [if_pos (by omega)]
    · simp only [List.drop_length, List.flatMap_nil, nums8, List.map_nil, List.nil_append]
      exact Ev.now _
  | d + 1, i, buf, hd, hi, hb => by
    have hlt : i < s.data.toList.length := by omega
    refine quote_round s buf i hlt (by omega) (by omega) _ ?_
    have hq := qbyte_len s.data.toList[i]
    have := quote_loop s hs d (i + 1) (buf ++ nums8 (qbyte s.data.toList[i])) (by omega) (by omega) (by simp only [List.length_append, nums8, List.length_map]; omega)
    rw [List.drop_eq_getElem_cons hlt, List.flatMap_cons, nums8_append]
    simpa [List.append_assoc] using this
/-- lex.Quote writes quoteT. -/
theorem quote_ev (s : ByteArray) (hs : s.data.toList.length ≤ 2000000) : Ev (fun k => lex_Quote.f k s) ⟨(quoteT s).toArray⟩ := by
  have h := quote_loop s hs s.data.toList.length 0 [34] (by omega) (by omega) (by simp only [List.length_singleton]; omega)
  have e : strOfNums ([34] ++ (nums8 ((s.data.toList.drop 0).flatMap qbyte) ++ [34])) = ⟨(quoteT s).toArray⟩ := by
    rw [← strOfNums_nums8]
    simp [quoteT, nums8]
  rw [e] at h
  exact h

end Go.Proofs.YteeojceloljcbaaDoor.P
