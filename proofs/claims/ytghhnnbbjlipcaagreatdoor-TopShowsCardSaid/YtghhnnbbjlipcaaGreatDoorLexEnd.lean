/-
  The walks of Quote and of the reference's Quote.
  Plain law of LexBack: what Quote writes stands for its text.
  The plain law of numbers: what Atoi and Itoa say is canonical is what the document says.
-/
import Derived.Test.YtghhnnbbjlipcaaGreatDoorLexT
import Derived.Deep.RegionLaw
import Derived.Laws.BitsLemmas
import Derived.Test.YtghhnnbbjlipcaaGreatDoorLexPlain
import Derived.Lib.AtoiAllCases
import Derived.Test.YtghhnnbbjlipcaaGreatDoorLexL
import Derived.Lib.ItoaMem
set_option linter.unusedVariables false
set_option linter.unusedSimpArgs false
namespace Go.Proofs.YtghhnnbbjlipcaaGreatDoor.X
open Go.RowKit
def hexT (x : UInt8) : UInt8 := if x < 10 then 48 + x else 87 + x
/-- What a byte is written as in a text in quotes. -/
def qB (c : UInt8) : Bs :=
  if c = 34 ∨ c = 92 then [92, c] else if c = 10 then [92, 110] else if c = 9 then [92, 116] else if c = 13 then [92, 114]
  else if c < 32 ∨ 126 < c then [92, 120, hexT (c / 16), hexT (c % 16)] else [c]
def qAll : Bs → Bs
  | [] => []
  | c :: l => qB c ++ qAll l
def quoteL (l : Bs) : Bs := 34 :: (qAll l ++ [34])
def hexS : ByteArray := ⟨#[48, 49, 50, 51, 52, 53, 54, 55, 56, 57, 97, 98, 99, 100, 101, 102]⟩


end Go.Proofs.YtghhnnbbjlipcaaGreatDoor.X
set_option linter.unusedVariables false
set_option linter.unusedSimpArgs false
namespace Go.Proofs.YtghhnnbbjlipcaaGreatDoor.X
theorem hex_all : ∀ n : Fin 256, hexB (hexT (n.val.toUInt8 / 16)) = true ∧ hexB (hexT (n.val.toUInt8 % 16)) = true ∧ 16 * hexV (hexT (n.val.toUInt8 / 16)) + hexV (hexT (n.val.toUInt8 % 16)) = n.val.toUInt8 := by decide +kernel
theorem hex_back (c : UInt8) : hexB (hexT (c / 16)) = true ∧ hexB (hexT (c % 16)) = true ∧ 16 * hexV (hexT (c / 16)) + hexV (hexT (c % 16)) = c := by
  have := hex_all ⟨c.toNat, c.toNat_lt⟩
  simpa using this
theorem qB_read (c : UInt8) (x : Bs) (off : Nat) (acc : Bs) : strL (qB c ++ x) off acc = strL x (off + (qB c).length) (acc ++ [c]) := by
  unfold qB
  by_cases c1 : c = 34 ∨ c = 92
  · simp only [if_pos c1, List.cons_append, List.nil_append]
    rw [strL_cons, if_neg (by decide), if_neg (by decide), if_pos rfl]
    simp only [escOf, if_pos c1]
    rfl
  simp only [if_neg c1]
  by_cases c2 : c = 10
  · subst c2
    simp only [if_true, List.cons_append, List.nil_append]
    rw [strL_cons, if_neg (by decide), if_neg (by decide), if_pos rfl]
    rfl
  simp only [if_neg c2]
  by_cases c3 : c = 9
  · subst c3
    simp only [if_true, List.cons_append, List.nil_append]
    rw [strL_cons, if_neg (by decide), if_neg (by decide), if_pos rfl]
    rfl
  simp only [if_neg c3]
  by_cases c4 : c = 13
  · subst c4
    simp only [if_true, List.cons_append, List.nil_append]
    rw [strL_cons, if_neg (by decide), if_neg (by decide), if_pos rfl]
    rfl
  simp only [if_neg c4]
  by_cases c5 : c < 32 ∨ 126 < c
  · simp only [if_pos c5, List.cons_append, List.nil_append]
    obtain ⟨h1, h2, h3⟩ := hex_back c
    rw [strL_cons, if_neg (by decide), if_neg (by decide), if_pos rfl]
    simp only [escOf, h1, h2, Bool.and_self, if_true, h3]
    rw [if_neg (by decide), if_neg (by decide), if_neg (by decide), if_neg (by decide)]
    simp only [List.drop_succ_cons, List.drop_zero]
    rfl
  · simp only [if_neg c5, List.cons_append, List.nil_append]
    rw [strL_cons, if_neg (fun e => c1 (.inl e)), if_neg (fun e => c5 (.inl e)), if_neg (fun e => c1 (.inr e))]
    rfl
theorem qAll_read (x : Bs) : ∀ (l : Bs) (off : Nat) (acc : Bs), strL (qAll l ++ 34 :: x) off acc = .done (acc ++ l) (off + (qAll l).length + 1)
  | [], off, acc => by simp [qAll, strL_cons]
  | c :: l, off, acc => by
    simp only [qAll, List.append_assoc]
    rw [qB_read, qAll_read x l]
    simp only [List.length_append, List.append_assoc, List.cons_append, List.nil_append]
    congr 1
    omega
theorem quote_tok (l x : Bs) : tokAt (quoteL l ++ x) 0 = if 127 < l.length then .error (115, 0) else .ok ⟨1, l, 0, 0, (quoteL l).length⟩ := by
  unfold quoteL
  rw [List.cons_append, tokAt0, if_pos rfl]
  unfold textAt
  have e : (34 :: (qAll l ++ [34] ++ x)).drop (0 + 1) = qAll l ++ 34 :: x := by simp
  rw [e, qAll_read]
  simp only [List.nil_append]
  split
  · rfl
  · simp; omega

end Go.Proofs.YtghhnnbbjlipcaaGreatDoor.X
set_option linter.unusedVariables false
set_option linter.unusedSimpArgs false
namespace Go.Proofs.YtghhnnbbjlipcaaGreatDoor.X
/-- One digit more. -/
def stepN (acc : Nat) (c : UInt8) : Nat := acc * 10 + (c.toNat - 48)
theorem stepN_eq (acc : Nat) (c : UInt8) : stepN acc c = acc * 10 + (c.toNat - 48) := rfl
attribute [irreducible] stepN
/-- The value of a row of digits. -/
def valN (acc : Nat) : Bs → Nat
  | [] => acc
  | c :: l => valN (stepN acc c) l
theorem valN_nil (acc : Nat) : valN acc [] = acc := rfl
theorem valN_cons (acc : Nat) (c : UInt8) (l : Bs) : valN acc (c :: l) = valN (stepN acc c) l := rfl
def digsB (l : Bs) : Bool := l.all digB
theorem dig_nat {c : UInt8} (h : digB c = true) : 48 ≤ c.toNat ∧ c.toNat ≤ 57 := by
  simp only [digB, Bool.and_eq_true, decide_eq_true_eq, UInt8.le_iff_toNat_le] at h
  simpa using h
theorem valN_append (c : UInt8) (l : Bs) : ∀ acc, valN acc (l ++ [c]) = stepN (valN acc l) c := by
  induction l with
  | nil => intro acc; rw [List.nil_append, valN_cons, valN_nil, valN_nil]
  | cons a l ih => intro acc; rw [List.cons_append, valN_cons, valN_cons, ih]
theorem valN_ge (l : Bs) : ∀ acc, acc ≤ valN acc l := by
  induction l with
  | nil => intro acc; rw [valN_nil]; exact Nat.le_refl _
  | cons c l ih =>
    intro acc
    rw [valN_cons]
    have h1 := ih (stepN acc c)
    have h2 := stepN_eq acc c
    omega
/-- The reader of digits, where nothing overflows. -/
theorem parse_ok (l : Bs) : ∀ acc, digsB l = true → (acc + 1) * 10 ^ l.length ≤ 1000000000000000000 → Lib.parseUint10 acc l = .ok (valN acc l) := by
  induction l with
  | nil => intro acc _ _; rfl
  | cons c l ih =>
    intro acc h hb
    simp only [digsB, List.all_cons, Bool.and_eq_true] at h
    have h1 := dig_nat h.1
    have h3 : ((acc + 1) * 10) * 10 ^ l.length = (acc + 1) * 10 ^ (l.length + 1) := by rw [Nat.pow_succ, Nat.mul_assoc, Nat.mul_comm 10]
    have hp : 1 ≤ 10 ^ l.length := Nat.one_le_pow _ _ (by omega)
    rw [List.length_cons, ← h3] at hb
    have h4 : (acc + 1) * 10 ≤ 1000000000000000000 := by
      have : (acc + 1) * 10 * 1 ≤ ((acc + 1) * 10) * 10 ^ l.length := Nat.mul_le_mul_left _ hp
      omega
    have h2 : (acc * 10 + (c.toNat - 48) + 1) * 10 ^ l.length ≤ ((acc + 1) * 10) * 10 ^ l.length := Nat.mul_le_mul_right _ (by omega)
    rw [valN_cons, Lib.parseUint10, if_pos h1, if_neg (by omega), if_neg (by omega), stepN_eq]
    exact ih _ h.2 (Nat.le_trans h2 hb)
theorem pow18 {n : Nat} (h : n ≤ 18) : 10 ^ n ≤ 1000000000000000000 := by
  have : 10 ^ n ≤ 10 ^ 18 := Nat.pow_le_pow_right (by omega) h
  simpa using this
theorem byte_of {c : UInt8} (h : digB c = true) : UInt8.ofNat (48 + (c.toNat - 48)) = c := by
  have := dig_nat h
  rw [show 48 + (c.toNat - 48) = c.toNat by omega]
  simp
/-- A canonical row of digits is its value's numeral. -/
theorem dec_val (l : Bs) : digsB l = true → l ≠ [] → (l.head? = some 48 → l = [48]) → Lib.decDigits (valN 0 l) = l := by
  induction hn : l.length using Nat.strongRecOn generalizing l with
  | _ n ih =>
    intro hd hne hz
    obtain ⟨r, c, rfl⟩ : ∃ r c, l = r ++ [c] := ⟨l.dropLast, l.getLast hne, (List.dropLast_concat_getLast hne).symm⟩
    have hd2 : digsB r = true ∧ digB c = true := by simpa [digsB] using hd
    have h1 := dig_nat hd2.2
    rw [valN_append, stepN_eq]
    cases r with
    | nil =>
      rw [List.nil_append, valN_nil]
      rw [Lib.decDigits_one (by omega), Nat.zero_mul, Nat.zero_add, byte_of hd2.2]
    | cons a r =>
      have ha : a ≠ 48 := by
        rintro rfl
        have := hz (by simp)
        simp at this
      have hda : digB a = true := by have := hd2.1; simp [digsB] at this; exact this.1
      have h2 := dig_nat hda
      have h3 : a.toNat ≠ 48 := fun e => ha (UInt8.toNat_inj.1 (by simpa using e))
      have h4 : 1 ≤ valN 0 (a :: r) := by
        have h6 := valN_ge r (stepN 0 a)
        have h7 := stepN_eq 0 a
        rw [valN_cons]; omega
      have h5 := ih (a :: r).length (by rw [← hn]; simp) (a :: r) rfl hd2.1 (by simp) (fun e => by simp at e; exact absurd e ha)
      rw [Lib.decDigits, dif_neg (by omega)]
      rw [show (valN 0 (a :: r) * 10 + (c.toNat - 48)) / 10 = valN 0 (a :: r) by omega, show (valN 0 (a :: r) * 10 + (c.toNat - 48)) % 10 = c.toNat - 48 by omega, h5, byte_of hd2.2]
/-- A numeral is canonical, and its value is the number. -/
theorem val_dec (u : Nat) : digsB (Lib.decDigits u) = true ∧ Lib.decDigits u ≠ [] ∧ ((Lib.decDigits u).head? = some 48 → u = 0) ∧ valN 0 (Lib.decDigits u) = u := by
  induction u using Nat.strongRecOn with
  | _ u ih =>
    by_cases h : u < 10
    · rw [Lib.decDigits_one h]
      have hm : ((48 + u) % 256) = 48 + u := by omega
      refine ⟨?_, by simp, ?_, ?_⟩
      · simp only [digsB, List.all_cons, List.all_nil, Bool.and_true, digB, Bool.and_eq_true, decide_eq_true_eq, UInt8.le_iff_toNat_le]
        simp; omega
      · intro e
        simp only [List.head?_cons, Option.some.injEq] at e
        have := congrArg UInt8.toNat e
        simp at this; omega
      · rw [valN_cons, valN_nil, stepN_eq]; simp; omega
    · obtain ⟨h1, h2, h3, h4⟩ := ih (u / 10) (by omega)
      rw [Lib.decDigits, dif_neg h]
      have hm : ((48 + u % 10) % 256) = 48 + u % 10 := by omega
      refine ⟨?_, by simp, ?_, ?_⟩
      · have : digB (UInt8.ofNat (48 + u % 10)) = true := by
          simp only [digB, Bool.and_eq_true, decide_eq_true_eq, UInt8.le_iff_toNat_le]
          simp; omega
        simp only [digsB, List.all_append, List.all_cons, List.all_nil, Bool.and_true, Bool.and_eq_true]
        exact ⟨h1, this⟩
      · intro e
        cases hl : Lib.decDigits (u / 10) with
        | nil => exact absurd hl h2
        | cons a l =>
          rw [hl] at e h3
          have := h3 (by simpa using e)
          omega
      · rw [valN_append, h4, stepN_eq]; simp; omega

theorem parseMag_ok (d : Bs) (h1 : d ≠ []) (h2 : digsB d = true) (h3 : d.length ≤ 18) : Lib.parseMag d = .ok (valN 0 d) := by
  unfold Lib.parseMag
  rw [if_neg h1]
  exact parse_ok d 0 h2 (by simpa using pow18 h3)
theorem valN_small (d : Bs) : ∀ acc, digsB d = true → valN acc d + 1 ≤ (acc + 1) * 10 ^ d.length := by
  induction d with
  | nil => intro acc _; rw [valN_nil]; simp
  | cons c l ih =>
    intro acc h
    simp only [digsB, List.all_cons, Bool.and_eq_true] at h
    have h1 := dig_nat h.1
    have h3 : ((acc + 1) * 10) * 10 ^ l.length = (acc + 1) * 10 ^ (l.length + 1) := by rw [Nat.pow_succ, Nat.mul_assoc, Nat.mul_comm 10]
    have h2 : (stepN acc c + 1) * 10 ^ l.length ≤ ((acc + 1) * 10) * 10 ^ l.length := Nat.mul_le_mul_right _ (by rw [stepN_eq]; omega)
    rw [valN_cons, List.length_cons, ← h3]
    exact Nat.le_trans (ih _ h.2) h2
theorem val18 (d : Bs) (h : digsB d = true) (hl : d.length ≤ 18) : valN 0 d < 1000000000000000000 := by
  have h1 := valN_small d 0 h
  have h2 := pow18 hl
  rw [show 0 + 1 = 1 from rfl, Nat.one_mul] at h1
  omega
/-- A canonical row of digits ahead of no sign. -/
theorem num_plain (d : Bs) (h1 : d ≠ []) (h2 : digsB d = true) (h3 : d.length ≤ 18) (h4 : d.head? = some 48 → d = [48]) : numOf d = some (valN 0 d : Int) := by
  cases d with
  | nil => exact absurd rfl h1
  | cons c r =>
    have hc : digB c = true := by simp [digsB] at h2; exact h2.1
    have hn := dig_nat hc
    have h45 : c ≠ 45 := by rintro rfl; exact absurd hc (by decide)
    have hv := val18 (c :: r) h2 h3
    have hp := parseMag_ok (c :: r) h1 h2 h3
    have hd := dec_val (c :: r) h2 h1 h4
    have ha : Lib.atoiAll (c :: r) = .ok (valN 0 (c :: r) : Int) := by
      rw [Lib.atoiAll_plain c r (by omega) (by omega), hp]
      simp only [Lib.signless]
      rw [if_neg (by omega)]
    have hi : Lib.itoa (valN 0 (c :: r) : Int) = c :: r := by rw [Lib.itoa_nonneg, hd]
    have hh : ¬ (c :: r).head? = some 45 := by simpa using h45
    unfold numOf
    rw [ha]
    simp only
    rw [if_neg hh, if_pos ⟨hi, h3⟩]
theorem num_minus (d : Bs) (h1 : d ≠ []) (h2 : digsB d = true) (h3 : d.length ≤ 18) (h4 : d.head? ≠ some 48) : numOf (45 :: d) = some (-(valN 0 d : Int)) := by
  have hv := val18 d h2 h3
  have hp := parseMag_ok d h1 h2 h3
  have hd := dec_val d h2 h1 (fun e => absurd e h4)
  have h5 : 1 ≤ valN 0 d := by
    apply Classical.byContradiction
    intro h
    have e : valN 0 d = 0 := by omega
    rw [e, Lib.decDigits_one (by omega)] at hd
    rw [← hd] at h4
    exact h4 rfl
  have ha : Lib.atoiAll (45 :: d) = .ok (-(valN 0 d : Int)) := by
    rw [Lib.atoiAll_minus, hp]
    simp only [Lib.signed]
    rw [if_neg (by omega)]
  have hi : Lib.itoa (-(valN 0 d : Int)) = 45 :: d := by rw [Lib.itoa_neg _ h5, hd]
  have hh : (45 :: d : Bs).head? = some 45 := rfl
  unfold numOf
  rw [ha]
  simp only
  rw [if_pos hh, if_pos ⟨hi, h3⟩]

end Go.Proofs.YtghhnnbbjlipcaaGreatDoor.X
