/-
  The plain law of numbers: what Atoi and Itoa say is canonical is what the document says.
-/
import Derived.Test.YthcdmnndhjbbfaaDoorLexL
import Derived.Lib.AtoiAllCases
import Derived.Lib.ItoaMem
set_option linter.unusedVariables false
set_option linter.unusedSimpArgs false
namespace Go.Proofs.YthcdmnndhjbbfaaDoor.X
/-- One digit more. -/
def stepN (acc : Nat) (c : UInt8) : Nat := acc * 10 + (c.toNat - 48)
theorem stepN_eq (acc : Nat) (c : UInt8) : stepN acc c = acc * 10 + (c.toNat - 48) := rfl
attribute [irreducible] stepN
/-- The value of a row of digits. -/
def valN (acc : Nat) : Bs → Nat
  | [] => acc
  | c :: l => valN (stepN acc c) l
theorem valN_nil (acc : Nat) : valN acc [] = acc := rfl
theorem valN_cons (acc : Nat) (c : UInt8) (l : Bs) : valN acc (c :: l) = valN (stepN acc c) l := rfl
def digsB (l : Bs) : Bool := l.all digB
/-- The document's number: d is the run without its minus. -/
def refBody (run d : Bs) : Option Int :=
  if d.length < 1 ∨ 18 < d.length then none else if digsB d = false then none
  else if d.head? = some 48 ∧ run ≠ [48] then none
  else some (if d.length < run.length then -(valN 0 d : Int) else (valN 0 d : Int))
def refNum (run : Bs) : Option Int := refBody run (if run.head? = some 45 then run.tail else run)
theorem dig_nat {c : UInt8} (h : digB c = true) : 48 ≤ c.toNat ∧ c.toNat ≤ 57 := by
  simp only [digB, Bool.and_eq_true, decide_eq_true_eq, UInt8.le_iff_toNat_le] at h
  simpa using h
theorem valN_append (c : UInt8) (l : Bs) : ∀ acc, valN acc (l ++ [c]) = stepN (valN acc l) c := by
  induction l with
  | nil => intro acc; rw [List.nil_append, valN_cons, valN_nil, valN_nil]
  | cons a l ih => intro acc; rw [List.cons_append, valN_cons, valN_cons, ih]
theorem valN_ge (l : Bs) : ∀ acc, acc ≤ valN acc l := by
  induction l with
  | nil => intro acc; rw [valN_nil]; exact Nat.le_refl _
  | cons c l ih =>
    intro acc
    rw [valN_cons]
    have h1 := ih (stepN acc c)
    have h2 := stepN_eq acc c
    omega
/-- The reader of digits, where nothing overflows. -/
theorem parse_ok (l : Bs) : ∀ acc, digsB l = true → (acc + 1) * 10 ^ l.length ≤ 1000000000000000000 → Lib.parseUint10 acc l = .ok (valN acc l) := by
  induction l with
  | nil => intro acc _ _; rfl
  | cons c l ih =>
    intro acc h hb
    simp only [digsB, List.all_cons, Bool.and_eq_true] at h
    have h1 := dig_nat h.1
    have h3 : ((acc + 1) * 10) * 10 ^ l.length = (acc + 1) * 10 ^ (l.length + 1) := by rw [Nat.pow_succ, Nat.mul_assoc, Nat.mul_comm 10]
    have hp : 1 ≤ 10 ^ l.length := Nat.one_le_pow _ _ (by omega)
    rw [List.length_cons, ← h3] at hb
    have h4 : (acc + 1) * 10 ≤ 1000000000000000000 := by
      have : (acc + 1) * 10 * 1 ≤ ((acc + 1) * 10) * 10 ^ l.length := Nat.mul_le_mul_left _ hp
      omega
    have h2 : (acc * 10 + (c.toNat - 48) + 1) * 10 ^ l.length ≤ ((acc + 1) * 10) * 10 ^ l.length := Nat.mul_le_mul_right _ (by omega)
    rw [valN_cons, Lib.parseUint10, if_pos h1, if_neg (by omega), if_neg (by omega), stepN_eq]
    exact ih _ h.2 (Nat.le_trans h2 hb)
theorem pow18 {n : Nat} (h : n ≤ 18) : 10 ^ n ≤ 1000000000000000000 := by
  have : 10 ^ n ≤ 10 ^ 18 := Nat.pow_le_pow_right (by omega) h
  simpa using this
theorem byte_of {c : UInt8} (h : digB c = true) : UInt8.ofNat (48 + (c.toNat - 48)) = c := by
  have := dig_nat h
  rw [show 48 + (c.toNat - 48) = c.toNat by omega]
  simp
/-- A canonical row of digits is its value's numeral. -/
theorem dec_val (l : Bs) : digsB l = true → l ≠ [] → (l.head? = some 48 → l = [48]) → Lib.decDigits (valN 0 l) = l := by
  induction hn : l.length using Nat.strongRecOn generalizing l with
  | _ n ih =>
    intro hd hne hz
    obtain ⟨r, c, rfl⟩ : ∃ r c, l = r ++ [c] := ⟨l.dropLast, l.getLast hne, (List.dropLast_concat_getLast hne).symm⟩
    have hd2 : digsB r = true ∧ digB c = true := by simpa [digsB] using hd
    have h1 := dig_nat hd2.2
    rw [valN_append, stepN_eq]
    cases r with
    | nil =>
      rw [List.nil_append, valN_nil]
      rw [Lib.decDigits_one (by omega), Nat.zero_mul, Nat.zero_add, byte_of hd2.2]
    | cons a r =>
      have ha : a ≠ 48 := by
        rintro rfl
        have := hz (by simp)
        simp at this
      have hda : digB a = true := by have := hd2.1; simp [digsB] at this; exact this.1
      have h2 := dig_nat hda
      have h3 : a.toNat ≠ 48 := fun e => ha (UInt8.toNat_inj.1 (by simpa using e))
      have h4 : 1 ≤ valN 0 (a :: r) := by
        have h6 := valN_ge r (stepN 0 a)
        have h7 := stepN_eq 0 a
        rw [valN_cons]; omega
      have h5 := ih (a :: r).length (by rw [← hn]; simp) (a :: r) rfl hd2.1 (by simp) (fun e => by simp at e; exact absurd e ha)
      rw [Lib.decDigits, dif_neg (by omega)]
      rw [show (valN 0 (a :: r) * 10 + (c.toNat - 48)) / 10 = valN 0 (a :: r) by omega, show (valN 0 (a :: r) * 10 + (c.toNat - 48)) % 10 = c.toNat - 48 by omega, h5, byte_of hd2.2]
/-- A numeral is canonical, and its value is the number. -/
theorem val_dec (u : Nat) : digsB (Lib.decDigits u) = true ∧ Lib.decDigits u ≠ [] ∧ ((Lib.decDigits u).head? = some 48 → u = 0) ∧ valN 0 (Lib.decDigits u) = u := by
  induction u using Nat.strongRecOn with
  | _ u ih =>
    by_cases h : u < 10
    · rw [Lib.decDigits_one h]
      have hm : ((48 + u) % 256) = 48 + u := by omega
      refine ⟨?_, by simp, ?_, ?_⟩
      · simp only [digsB, List.all_cons, List.all_nil, Bool.and_true, digB, Bool.and_eq_true, decide_eq_true_eq, UInt8.le_iff_toNat_le]
        simp; omega
      · intro e
        simp only [List.head?_cons, Option.some.injEq] at e
        have := congrArg UInt8.toNat e
        simp at this; omega
      · rw [valN_cons, valN_nil, stepN_eq]; simp; omega
    · obtain ⟨h1, h2, h3, h4⟩ := ih (u / 10) (by omega)
      rw [Lib.decDigits, dif_neg h]
      have hm : ((48 + u % 10) % 256) = 48 + u % 10 := by omega
      refine ⟨?_, by simp, ?_, ?_⟩
      · have : digB (UInt8.ofNat (48 + u % 10)) = true := by
          simp only [digB, Bool.and_eq_true, decide_eq_true_eq, UInt8.le_iff_toNat_le]
          simp; omega
        simp only [digsB, List.all_append, List.all_cons, List.all_nil, Bool.and_true, Bool.and_eq_true]
        exact ⟨h1, this⟩
      · intro e
        cases hl : Lib.decDigits (u / 10) with
        | nil => exact absurd hl h2
        | cons a l =>
          rw [hl] at e h3
          have := h3 (by simpa using e)
          omega
      · rw [valN_append, h4, stepN_eq]; simp; omega

theorem parseMag_ok (d : Bs) (h1 : d ≠ []) (h2 : digsB d = true) (h3 : d.length ≤ 18) : Lib.parseMag d = .ok (valN 0 d) := by
  unfold Lib.parseMag
  rw [if_neg h1]
  exact parse_ok d 0 h2 (by simpa using pow18 h3)
theorem valN_small (d : Bs) : ∀ acc, digsB d = true → valN acc d + 1 ≤ (acc + 1) * 10 ^ d.length := by
  induction d with
  | nil => intro acc _; rw [valN_nil]; simp
  | cons c l ih =>
    intro acc h
    simp only [digsB, List.all_cons, Bool.and_eq_true] at h
    have h1 := dig_nat h.1
    have h3 : ((acc + 1) * 10) * 10 ^ l.length = (acc + 1) * 10 ^ (l.length + 1) := by rw [Nat.pow_succ, Nat.mul_assoc, Nat.mul_comm 10]
    have h2 : (stepN acc c + 1) * 10 ^ l.length ≤ ((acc + 1) * 10) * 10 ^ l.length := Nat.mul_le_mul_right _ (by rw [stepN_eq]; omega)
    rw [valN_cons, List.length_cons, ← h3]
    exact Nat.le_trans (ih _ h.2) h2
theorem val18 (d : Bs) (h : digsB d = true) (hl : d.length ≤ 18) : valN 0 d < 1000000000000000000 := by
  have h1 := valN_small d 0 h
  have h2 := pow18 hl
  rw [show 0 + 1 = 1 from rfl, Nat.one_mul] at h1
  omega
/-- A canonical row of digits ahead of no sign. -/
theorem num_plain (d : Bs) (h1 : d ≠ []) (h2 : digsB d = true) (h3 : d.length ≤ 18) (h4 : d.head? = some 48 → d = [48]) : numOf d = some (valN 0 d : Int) := by
  cases d with
  | nil => exact absurd rfl h1
  | cons c r =>
    have hc : digB c = true := by simp [digsB] at h2; exact h2.1
    have hn := dig_nat hc
    have h45 : c ≠ 45 := by rintro rfl; exact absurd hc (by decide)
    have hv := val18 (c :: r) h2 h3
    have hp := parseMag_ok (c :: r) h1 h2 h3
    have hd := dec_val (c :: r) h2 h1 h4
    have ha : Lib.atoiAll (c :: r) = .ok (valN 0 (c :: r) : Int) := by
      rw [Lib.atoiAll_plain c r (by omega) (by omega), hp]
      simp only [Lib.signless]
      rw [if_neg (by omega)]
    have hi : Lib.itoa (valN 0 (c :: r) : Int) = c :: r := by rw [Lib.itoa_nonneg, hd]
    have hh : ¬ (c :: r).head? = some 45 := by simpa using h45
    unfold numOf
    rw [ha]
    simp only
    rw [if_neg hh, if_pos ⟨hi, h3⟩]
theorem num_minus (d : Bs) (h1 : d ≠ []) (h2 : digsB d = true) (h3 : d.length ≤ 18) (h4 : d.head? ≠ some 48) : numOf (45 :: d) = some (-(valN 0 d : Int)) := by
  have hv := val18 d h2 h3
  have hp := parseMag_ok d h1 h2 h3
  have hd := dec_val d h2 h1 (fun e => absurd e h4)
  have h5 : 1 ≤ valN 0 d := by
    apply Classical.byContradiction
    intro h
    have e : valN 0 d = 0 := by omega
    rw [e, Lib.decDigits_one (by omega)] at hd
    rw [← hd] at h4
    exact h4 rfl
  have ha : Lib.atoiAll (45 :: d) = .ok (-(valN 0 d : Int)) := by
    rw [Lib.atoiAll_minus, hp]
    simp only [Lib.signed]
    rw [if_neg (by omega)]
  have hi : Lib.itoa (-(valN 0 d : Int)) = 45 :: d := by rw [Lib.itoa_neg _ h5, hd]
  have hh : (45 :: d : Bs).head? = some 45 := rfl
  unfold numOf
  rw [ha]
  simp only
  rw [if_pos hh, if_pos ⟨hi, h3⟩]
/-- What the code takes is what the document takes. -/
theorem num_eq (run : Bs) : numOf run = refNum run := by
  have back : ∀ n, numOf run = some n → refNum run = some n := by
    intro n h
    unfold numOf at h
    rcases numEnd_cases (Lib.atoiAll run) with ⟨m, ha⟩ | ha | ha
    rotate_left
    · rw [ha] at h; cases h
    · rw [ha] at h; cases h
    · rw [ha] at h
      simp only at h
      by_cases hc : Lib.itoa m = run ∧ (if run.head? = some 45 then run.tail else run).length ≤ 18
      · rw [if_pos hc] at h
        obtain ⟨hi, hl⟩ := hc
        injection h with h
        subst h
        by_cases hneg : m < 0
        · obtain ⟨h1, h2, h3, h4⟩ := val_dec m.natAbs
          have hr : run = 45 :: Lib.decDigits m.natAbs := by rw [← hi]; unfold Lib.itoa; rw [if_pos hneg]
          have hh : run.head? = some 45 := by rw [hr]; rfl
          rw [if_pos hh] at hl
          have ht : run.tail = Lib.decDigits m.natAbs := by rw [hr]; rfl
          unfold refNum
          rw [if_pos hh, ht]
          rw [ht] at hl
          unfold refBody
          have hlen : 1 ≤ (Lib.decDigits m.natAbs).length := by
            cases hx : Lib.decDigits m.natAbs with
            | nil => exact absurd hx h2
            | cons a b => simp
          rw [if_neg (by omega), if_neg (by rw [h1]; simp), if_neg (by
            rintro ⟨e, _⟩; have := h3 e; omega), if_pos (by rw [hr]; simp), h4]
          congr 1; omega
        · obtain ⟨h1, h2, h3, h4⟩ := val_dec m.toNat
          have hr : run = Lib.decDigits m.toNat := by rw [← hi]; unfold Lib.itoa; rw [if_neg hneg]
          have hh : ¬ run.head? = some 45 := by
            intro e
            rw [hr] at e
            cases hx : Lib.decDigits m.toNat with
            | nil => exact absurd hx h2
            | cons a b =>
              rw [hx] at e h1
              have : a = 45 := by simpa using e
              subst this
              simp [digsB] at h1
              exact absurd h1.1 (by decide)
          rw [if_neg hh] at hl
          unfold refNum
          rw [if_neg hh]
          unfold refBody
          have hlen : 1 ≤ run.length := by
            rw [hr]
            cases hx : Lib.decDigits m.toNat with
            | nil => exact absurd hx h2
            | cons a b => simp
          rw [if_neg (by omega), if_neg (by rw [hr, h1]; simp), if_neg (by
            rintro ⟨e, e2⟩
            rw [hr] at e
            have h0 := h3 e
            apply e2; rw [hr, h0]; exact Lib.decDigits_one (by omega)), if_neg (by omega)]
          rw [hr, h4]
          congr 1; omega
      · rw [if_neg hc] at h; cases h
  cases hr : refNum run with
  | none =>
    cases hn : numOf run with
    | none => rfl
    | some n => rw [back n hn] at hr; cases hr
  | some n =>
    unfold refNum at hr
    by_cases hh : run.head? = some 45
    · rw [if_pos hh] at hr
      obtain ⟨d, rfl⟩ : ∃ d, run = 45 :: d := by
        cases run with
        | nil => simp at hh
        | cons a b =>
          have : a = 45 := by simpa using hh
          exact ⟨b, by rw [this]⟩
      rw [List.tail_cons] at hr
      unfold refBody at hr
      by_cases c1 : d.length < 1 ∨ 18 < d.length
      · rw [if_pos c1] at hr; cases hr
      rw [if_neg c1] at hr
      by_cases c2 : digsB d = false
      · rw [if_pos c2] at hr; cases hr
      rw [if_neg c2] at hr
      by_cases c3 : d.head? = some 48 ∧ (45 :: d) ≠ [48]
      · rw [if_pos c3] at hr; cases hr
      rw [if_neg c3] at hr
      rw [if_pos (by simp)] at hr
      injection hr with hr
      rw [← hr]
      refine num_minus d (by rintro rfl; simp at c1) (by simpa using c2) (by omega) (fun e => c3 ⟨e, by simp⟩)
    · rw [if_neg hh] at hr
      unfold refBody at hr
      by_cases c1 : run.length < 1 ∨ 18 < run.length
      · rw [if_pos c1] at hr; cases hr
      rw [if_neg c1] at hr
      by_cases c2 : digsB run = false
      · rw [if_pos c2] at hr; cases hr
      rw [if_neg c2] at hr
      by_cases c3 : run.head? = some 48 ∧ run ≠ [48]
      · rw [if_pos c3] at hr; cases hr
      rw [if_neg c3] at hr
      rw [if_neg (by omega)] at hr
      injection hr with hr
      rw [← hr]
      refine num_plain run (by rintro rfl; simp at c1) (by simpa using c2) (by omega) (fun e => Classical.byContradiction fun e2 => c3 ⟨e, e2⟩)

end Go.Proofs.YthcdmnndhjbbfaaDoor.X
