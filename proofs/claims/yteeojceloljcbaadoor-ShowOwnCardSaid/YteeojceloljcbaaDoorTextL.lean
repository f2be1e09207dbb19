/-
  The text of a part as its own law; how long a text can be.
-/
import Derived.Test.YteeojceloljcbaaDoorRefV
import Derived.Test.YteeojceloljcbaaDoorRenderL
import Derived.Lib.ItoaLen
set_option linter.unusedVariables false
set_option linter.unusedSimpArgs false
namespace Go.Proofs.YteeojceloljcbaaDoor.P
open Go.RowKit Go.Proofs.YteeojceloljcbaaDoorW.PrintWords Go.Proofs.YteeojceloljcbaaDoorW.PrintLast
/-- The text of the part at a place. -/
def txt (l0 : List Pt) (at_ : Int) : Bs := rend l0 (at_.toNat + 1) at_
theorem oneT_congr (l0 : List Pt) (p : Pt) (f g : Int → Bs) (k : Int) (h : f k = g k) : oneT l0 p f k = oneT l0 p g k := by simp [oneT, h]
theorem joinT_congr (l0 : List Pt) (p : Pt) (sep : Bs) (f g : Int → Bs) (ks : List Int) (h : ∀ k ∈ ks, f k = g k) : joinT l0 p sep f ks = joinT l0 p sep g ks := by
  cases ks with
  | nil => rfl
  | cons k ks =>
    simp only [joinT]
    rw [oneT_congr l0 p f g k (h k (List.mem_cons_self ..))]
    congr 1
    have go : ∀ ks : List Int, (∀ k ∈ ks, f k = g k) → ks.flatMap (fun k => sep ++ oneT l0 p f k) = ks.flatMap (fun k => sep ++ oneT l0 p g k) := by
      intro ks
      induction ks with
      | nil => intro _; rfl
      | cons y ks ih =>
        intro hy
        rw [List.flatMap_cons, List.flatMap_cons, oneT_congr l0 p f g y (hy y (List.mem_cons_self ..)), ih (fun k hk => hy k (List.mem_cons_of_mem _ hk))]
    exact go ks (fun y hy => h y (List.mem_cons_of_mem _ hy))
theorem partT_congr (l0 : List Pt) (p : Pt) (f g : Int → Bs) (h : ∀ k ∈ p.f3, f k = g k) : partT l0 p f = partT l0 p g := by
  simp only [partT, termT, selT]
  simp only [joinT_congr l0 p _ f g p.f3 h]
theorem rend_stable (l0 : List Pt) (hS : Shape l0) : ∀ (n m j : Nat), j < n → j < m → j < l0.length → rend l0 n (j : Int) = rend l0 m (j : Int)
  | 0, _, _, h, _, _ => absurd h (Nat.not_lt_zero _)
  | _, 0, _, _, h, _ => absurd h (Nat.not_lt_zero _)
  | n + 1, m + 1, j, hn, hm, hj => by
    simp only [rend]
    refine partT_congr l0 _ _ _ (fun k hk => ?_)
    obtain ⟨hk0, hk1⟩ := (hS.parts j hj).kids k hk
    have hk2 : ((k.toNat : Nat) : Int) = k := by omega
    have := rend_stable l0 hS n m k.toNat (by omega) (by omega) (by omega)
    rwa [hk2] at this
theorem rend_txt (l0 : List Pt) (hS : Shape l0) (n : Nat) (at_ : Int) (h0 : 0 ≤ at_) (h1 : at_ < (n : Int)) (h2 : at_ < (l0.length : Int)) : rend l0 n at_ = txt l0 at_ := by
  have hk2 : ((at_.toNat : Nat) : Int) = at_ := by omega
  have := rend_stable l0 hS n (at_.toNat + 1) at_.toNat (by omega) (by omega) (by omega)
  rwa [hk2] at this
theorem txt_eq (l0 : List Pt) (hS : Shape l0) (j : Nat) (hj : j < l0.length) : txt l0 (j : Int) = partT l0 (rd_T45 l0 (j : Int)) (txt l0) := by
  show partT l0 (rd_T45 l0 (j : Int)) (rend l0 ((j : Int).toNat)) = _
  refine partT_congr l0 _ _ _ (fun k hk => ?_)
  obtain ⟨hk0, hk1⟩ := (hS.parts j hj).kids k hk
  exact rend_txt l0 hS _ k hk0 (by omega) (by omega)

/-! ### Lengths -/
def cost (f : Int → Bs) : List Int → Nat
  | [] => 0
  | k :: ks => (f k).length + 9 + cost f ks
theorem cost_append (f : Int → Bs) : ∀ xs ys : List Int, cost f (xs ++ ys) = cost f xs + cost f ys
  | [], ys => by simp [cost]
  | x :: xs, ys => by simp only [List.cons_append, cost, cost_append f xs ys]; omega
theorem qbyteL_len (x : UInt8) : (qbyte x).length ≤ 4 := by
  unfold qbyte
  repeat' split
  all_goals simp
theorem flat_len (l : List UInt8) : (l.flatMap qbyte).length ≤ 4 * l.length := by
  induction l with
  | nil => simp
  | cons x l ih => rw [List.flatMap_cons, List.length_append, List.length_cons]; have := qbyteL_len x; omega
theorem quoteT_len (s : ByteArray) : (quoteT s).length ≤ 4 * s.size + 2 := by
  have := flat_len s.data.toList
  simp only [quoteT, List.length_cons, List.length_append, List.length_nil]
  have e : s.data.toList.length = s.size := rfl
  omega
theorem oneT_len (l0 : List Pt) (p : Pt) (f : Int → Bs) (k : Int) : (oneT l0 p f k).length ≤ (f k).length + 2 := by
  unfold oneT; split <;> simp
theorem joinT_len (l0 : List Pt) (p : Pt) (sep : Bs) (f : Int → Bs) (hs : sep.length ≤ 7) (ks : List Int) : (joinT l0 p sep f ks).length ≤ cost f ks := by
  have go : ∀ ks : List Int, (ks.flatMap (fun k => sep ++ oneT l0 p f k)).length ≤ cost f ks := by
    intro ks
    induction ks with
    | nil => simp [cost]
    | cons k ks ih =>
      rw [List.flatMap_cons, List.length_append, List.length_append]
      have := oneT_len l0 p f k
      simp only [cost]; omega
  cases ks with
  | nil => simp [joinT, cost]
  | cons k ks =>
    have := oneT_len l0 p f k
    have := go ks
    simp only [joinT, cost, List.length_append]; omega
theorem sideT_len (n : Int) : (sideT n).length ≤ 4 := by unfold sideT; (repeat' split) <;> simp
theorem cmpT_len (n : Int) : (cmpT n).length ≤ 2 := by unfold cmpT; (repeat' split) <;> simp
theorem len_ite {P : Prop} [Decidable P] {a b : Bs} {N : Nat} (ha : a.length ≤ N) (hb : b.length ≤ N) : (if P then a else b).length ≤ N := by split <;> assumption
theorem partT_len (l0 : List Pt) (p : Pt) (f : Int → Bs) (hs : p.f1.size ≤ 127) (h0 : -9223372036854775808 ≤ p.f2) (h1 : p.f2 ≤ 9223372036854775807) : (partT l0 p f).length ≤ 560 + cost f p.f3 := by
  have hq := quoteT_len p.f1
  have hi := Lib.itoa_length_le p.f2 h0 h1
  have hsd := sideT_len p.f2
  have hc := cmpT_len p.f2
  have j0 := joinT_len l0 p [] f (by simp) p.f3
  have j1 := joinT_len l0 p [32, 38, 38, 32] f (by simp) p.f3
  have j2 := joinT_len l0 p [32, 124, 124, 32] f (by simp) p.f3
  have j3 := joinT_len l0 p ([32] ++ cmpT p.f2 ++ [32]) f (by simp; omega) p.f3
  have j4 := joinT_len l0 p [32, 105, 110, 32] f (by simp) p.f3
  have j5 := joinT_len l0 p [32, 110, 111, 116, 105, 110, 32] f (by simp) p.f3
  have j6 := joinT_len l0 p [44, 32] f (by simp) p.f3
  unfold partT termT selT
  generalize Lib.itoa p.f2 = it at *
  repeat' refine len_ite ?_ ?_
  all_goals ((try simp only [List.length_append, List.length_cons, List.length_nil]); omega)
theorem fit_size {p : Pt} (h : partFitsB p = true) : p.f1.size ≤ 127 := by
  simp only [partFitsB, Bool.and_eq_true, decide_eq_true_eq] at h
  exact h.1.2.1
theorem fit_num {p : Pt} (h : partFitsB p = true) : -999999999999999999 ≤ p.f2 ∧ p.f2 ≤ 999999999999999999 := by
  simp only [partFitsB, Bool.and_eq_true] at h
  have := h.2.1
  unfold numFitsB at this
  (repeat' split at this) <;> (simp only [decide_eq_true_eq, beq_iff_eq] at this; omega)
theorem txt_len_go (l0 : List Pt) (hS : Shape l0) : ∀ (d i : Nat) (free : List Int), d = l0.length - i → i ≤ l0.length → formGo l0 (l0.drop i) i free = none → cost (txt l0) free ≤ 600 * i →
    ∀ j, i ≤ j → j < l0.length → (txt l0 (j : Int)).length ≤ 600 * (j + 1)
  | 0, i, free, hd, hi, h, hc => fun j h1 h2 => by omega
  | d + 1, i, free, hd, hi, h, hc => by
    have hlt : i < l0.length := by omega
    cases hs : stepB l0 (rd_T45 l0 (i : Int)) free with
    | false => rw [formGo_no l0 i free hlt hs] at h; cases h
    | true =>
      rw [formGo_yes l0 i free hlt hs] at h
      have hP := (hS.parts i hlt).fit
      have hn := fit_num hP
      have hl := partT_len l0 _ (txt l0) (fit_size hP) (by omega) (by omega)
      rw [← txt_eq l0 hS i hlt] at hl
      have hdrop : (rd_T45 l0 (i : Int)).f3 = free.drop (free.length - (rd_T45 l0 (i : Int)).f3.length) := by
        simp only [stepB, Bool.and_eq_true, beq_iff_eq] at hs; exact hs.1.2
      have hcf : cost (txt l0) free = cost (txt l0) (free.take (free.length - (rd_T45 l0 (i : Int)).f3.length)) + cost (txt l0) (rd_T45 l0 (i : Int)).f3 := by
        conv => lhs; rw [← List.take_append_drop (free.length - (rd_T45 l0 (i : Int)).f3.length) free, cost_append]
        rw [← hdrop]
      have hnew : cost (txt l0) (stepF (rd_T45 l0 (i : Int)) i free) ≤ 600 * (i + 1) := by
        rw [stepF, cost_append]
        simp only [cost]
        omega
      have ih := txt_len_go l0 hS d (i + 1) _ (by omega) hlt h hnew
      intro j h1 h2
      by_cases e : j = i
      · subst e; omega
      · exact ih j (by omega) h2
theorem txt_len (l0 : List Pt) (h : formSpec l0 = none) (j : Nat) (hj : j < l0.length) : (txt l0 (j : Int)).length ≤ 600 * (j + 1) := by
  have hS := formSpec_shape l0 h
  have hg : formGo l0 l0 0 [] = none := by
    unfold formSpec at h
    have h0 := hS.pos
    have h1 := hS.few
    rwa [if_neg (by omega), if_neg (by omega)] at h
  exact txt_len_go l0 hS l0.length 0 [] rfl (Nat.zero_le _) hg (by simp [cost]) j (Nat.zero_le _) hj

end Go.Proofs.YteeojceloljcbaaDoor.P
