/-
  The text of a part as its own law; how long a text can be.
  The walk of show.Text.
  The fixed fact: a tree and its text.
  Copy is the same tree; Large is a count: the plain law.
  The walks of the laws ShowValid and ShowNests, over a tree as memory holds it.
  An argument that is a tree, opened: the list of its parts, as memory holds them.
-/
import Derived.Test.YtghhnnbbjlipcaaGreatDoorValid
import Derived.Test.YtghhnnbbjlipcaaGreatDoorWrite
import Derived.Lib.ItoaLen
import Derived.Test.YtghhnnbbjlipcaaGreatDoorPart
import Derived.Test.YtghhnnbbjlipcaaGreatDoorNest
import Derived.Deep.Slices
import Derived.ChangeArms
import Derived.ProofKit
import Derived.SizedLaws
set_option linter.unusedVariables false
set_option linter.unusedSimpArgs false
namespace Go.Proofs.YtghhnnbbjlipcaaGreatDoor.P
open Go.RowKit Go.Proofs.YtghhnnbbjlipcaaGreatDoorW.PrintWords Go.Proofs.YtghhnnbbjlipcaaGreatDoorW.PrintLast
/-- The text of the part at a place. -/
def txt (l0 : List Pt) (at_ : Int) : Bs := rend l0 (at_.toNat + 1) at_
theorem oneT_congr (l0 : List Pt) (p : Pt) (f g : Int → Bs) (k : Int) (h : f k = g k) : oneT l0 p f k = oneT l0 p g k := by simp [oneT, h]
theorem joinT_congr (l0 : List Pt) (p : Pt) (sep : Bs) (f g : Int → Bs) (ks : List Int) (h : ∀ k ∈ ks, f k = g k) : joinT l0 p sep f ks = joinT l0 p sep g ks := by
  cases ks with
  | nil => rfl
  | cons k ks =>
    simp only [joinT]
    rw [oneT_congr l0 p f g k (h k (List.mem_cons_self ..))]
    congr 1
    have go : ∀ ks : List Int, (∀ k ∈ ks, f k = g k) → ks.flatMap (fun k => sep ++ oneT l0 p f k) = ks.flatMap (fun k => sep ++ oneT l0 p g k) := by
      intro ks
      induction ks with
      | nil => intro _; rfl
      | cons y ks ih =>
        intro hy
        rw [List.flatMap_cons, List.flatMap_cons, oneT_congr l0 p f g y (hy y (List.mem_cons_self ..)), ih (fun k hk => hy k (List.mem_cons_of_mem _ hk))]
    exact go ks (fun y hy => h y (List.mem_cons_of_mem _ hy))
theorem partT_congr (l0 : List Pt) (p : Pt) (f g : Int → Bs) (h : ∀ k ∈ p.f3, f k = g k) : partT l0 p f = partT l0 p g := by
  simp only [partT, termT, selT]
  simp only [joinT_congr l0 p _ f g p.f3 h]
theorem rend_stable (l0 : List Pt) (hS : Shape l0) : ∀ (n m j : Nat), j < n → j < m → j < l0.length → rend l0 n (j : Int) = rend l0 m (j : Int)
  | 0, _, _, h, _, _ => absurd h (Nat.not_lt_zero _)
  | _, 0, _, _, h, _ => absurd h (Nat.not_lt_zero _)
  | n + 1, m + 1, j, hn, hm, hj => by
    simp only [rend]
    refine partT_congr l0 _ _ _ (fun k hk => ?_)
    obtain ⟨hk0, hk1⟩ := (hS.parts j hj).kids k hk
    have hk2 : ((k.toNat : Nat) : Int) = k := by omega
    have := rend_stable l0 hS n m k.toNat (by omega) (by omega) (by omega)
    rwa [hk2] at this
theorem rend_txt (l0 : List Pt) (hS : Shape l0) (n : Nat) (at_ : Int) (h0 : 0 ≤ at_) (h1 : at_ < (n : Int)) (h2 : at_ < (l0.length : Int)) : rend l0 n at_ = txt l0 at_ := by
  have hk2 : ((at_.toNat : Nat) : Int) = at_ := by omega
  have := rend_stable l0 hS n (at_.toNat + 1) at_.toNat (by omega) (by omega) (by omega)
  rwa [hk2] at this
theorem txt_eq (l0 : List Pt) (hS : Shape l0) (j : Nat) (hj : j < l0.length) : txt l0 (j : Int) = partT l0 (rd_T45 l0 (j : Int)) (txt l0) := by
  show partT l0 (rd_T45 l0 (j : Int)) (rend l0 ((j : Int).toNat)) = _
  refine partT_congr l0 _ _ _ (fun k hk => ?_)
  obtain ⟨hk0, hk1⟩ := (hS.parts j hj).kids k hk
  exact rend_txt l0 hS _ k hk0 (by omega) (by omega)

/-! ### Lengths -/
def cost (f : Int → Bs) : List Int → Nat
  | [] => 0
  | k :: ks => (f k).length + 9 + cost f ks
theorem cost_append (f : Int → Bs) : ∀ xs ys : List Int, cost f (xs ++ ys) = cost f xs + cost f ys
  | [], ys => by simp [cost]
  | x :: xs, ys => by simp only [List.cons_append, cost, cost_append f xs ys]; omega
theorem qbyteL_len (x : UInt8) : (qbyte x).length ≤ 4 := by
  unfold qbyte
  repeat' split
  all_goals simp
theorem flat_len (l : List UInt8) : (l.flatMap qbyte).length ≤ 4 * l.length := by
  induction l with
  | nil => simp
  | cons x l ih => rw [List.flatMap_cons, List.length_append, List.length_cons]; have := qbyteL_len x; omega
theorem quoteT_len (s : ByteArray) : (quoteT s).length ≤ 4 * s.size + 2 := by
  have := flat_len s.data.toList
  simp only [quoteT, List.length_cons, List.length_append, List.length_nil]
  have e : s.data.toList.length = s.size := rfl
  omega
theorem oneT_len (l0 : List Pt) (p : Pt) (f : Int → Bs) (k : Int) : (oneT l0 p f k).length ≤ (f k).length + 2 := by
  unfold oneT; split <;> simp
theorem joinT_len (l0 : List Pt) (p : Pt) (sep : Bs) (f : Int → Bs) (hs : sep.length ≤ 7) (ks : List Int) : (joinT l0 p sep f ks).length ≤ cost f ks := by
  have go : ∀ ks : List Int, (ks.flatMap (fun k => sep ++ oneT l0 p f k)).length ≤ cost f ks := by
    intro ks
    induction ks with
    | nil => simp [cost]
    | cons k ks ih =>
      rw [List.flatMap_cons, List.length_append, List.length_append]
      have := oneT_len l0 p f k
      simp only [cost]; omega
  cases ks with
  | nil => simp [joinT, cost]
  | cons k ks =>
    have := oneT_len l0 p f k
    have := go ks
    simp only [joinT, cost, List.length_append]; omega
theorem sideT_len (n : Int) : (sideT n).length ≤ 4 := by unfold sideT; (repeat' split) <;> simp
theorem cmpT_len (n : Int) : (cmpT n).length ≤ 2 := by unfold cmpT; (repeat' split) <;> simp
theorem len_ite {P : Prop} [Decidable P] {a b : Bs} {N : Nat} (ha : a.length ≤ N) (hb : b.length ≤ N) : (if P then a else b).length ≤ N := by split <;> assumption
theorem partT_len (l0 : List Pt) (p : Pt) (f : Int → Bs) (hs : p.f1.size ≤ 127) (h0 : -9223372036854775808 ≤ p.f2) (h1 : p.f2 ≤ 9223372036854775807) : (partT l0 p f).length ≤ 560 + cost f p.f3 := by
  have hq := quoteT_len p.f1
  have hi := Lib.itoa_length_le p.f2 h0 h1
  have hsd := sideT_len p.f2
  have hc := cmpT_len p.f2
  have j0 := joinT_len l0 p [] f (by simp) p.f3
  have j1 := joinT_len l0 p [32, 38, 38, 32] f (by simp) p.f3
  have j2 := joinT_len l0 p [32, 124, 124, 32] f (by simp) p.f3
  have j3 := joinT_len l0 p ([32] ++ cmpT p.f2 ++ [32]) f (by simp; omega) p.f3
  have j4 := joinT_len l0 p [32, 105, 110, 32] f (by simp) p.f3
  have j5 := joinT_len l0 p [32, 110, 111, 116, 105, 110, 32] f (by simp) p.f3
  have j6 := joinT_len l0 p [44, 32] f (by simp) p.f3
  unfold partT termT selT
  generalize Lib.itoa p.f2 = it at *
  repeat' refine len_ite ?_ ?_
  all_goals ((try simp only [List.length_append, List.length_cons, List.length_nil]); omega)
theorem fit_size {p : Pt} (h : partFitsB p = true) : p.f1.size ≤ 127 := by
  simp only [partFitsB, Bool.and_eq_true, decide_eq_true_eq] at h
  exact h.1.2.1
theorem fit_num {p : Pt} (h : partFitsB p = true) : -999999999999999999 ≤ p.f2 ∧ p.f2 ≤ 999999999999999999 := by
  simp only [partFitsB, Bool.and_eq_true] at h
  have := h.2.1
  unfold numFitsB at this
  (repeat' split at this) <;> (simp only [decide_eq_true_eq, beq_iff_eq] at this; omega)
theorem txt_len_go (l0 : List Pt) (hS : Shape l0) : ∀ (d i : Nat) (free : List Int), d = l0.length - i → i ≤ l0.length → formGo l0 (l0.drop i) i free = none → cost (txt l0) free ≤ 600 * i →
    ∀ j, i ≤ j → j < l0.length → (txt l0 (j : Int)).length ≤ 600 * (j + 1)
  | 0, i, free, hd, hi, h, hc => fun j h1 h2 => by omega
  | d + 1, i, free, hd, hi, h, hc => by
    have hlt : i < l0.length := by omega
    cases hs : stepB l0 (rd_T45 l0 (i : Int)) free with
    | false => rw [formGo_no l0 i free hlt hs] at h; cases h
    | true =>
      rw [formGo_yes l0 i free hlt hs] at h
      have hP := (hS.parts i hlt).fit
      have hn := fit_num hP
      have hl := partT_len l0 _ (txt l0) (fit_size hP) (by omega) (by omega)
      rw [← txt_eq l0 hS i hlt] at hl
      have hdrop : (rd_T45 l0 (i : Int)).f3 = free.drop (free.length - (rd_T45 l0 (i : Int)).f3.length) := by
        simp only [stepB, Bool.and_eq_true, beq_iff_eq] at hs; exact hs.1.2
      have hcf : cost (txt l0) free = cost (txt l0) (free.take (free.length - (rd_T45 l0 (i : Int)).f3.length)) + cost (txt l0) (rd_T45 l0 (i : Int)).f3 := by
        conv => lhs; rw [← List.take_append_drop (free.length - (rd_T45 l0 (i : Int)).f3.length) free, cost_append]
        rw [← hdrop]
      have hnew : cost (txt l0) (stepF (rd_T45 l0 (i : Int)) i free) ≤ 600 * (i + 1) := by
        rw [stepF, cost_append]
        simp only [cost]
        omega
      have ih := txt_len_go l0 hS d (i + 1) _ (by omega) hlt h hnew
      intro j h1 h2
      by_cases e : j = i
      · subst e; omega
      · exact ih j (by omega) h2
theorem txt_len (l0 : List Pt) (h : formSpec l0 = none) (j : Nat) (hj : j < l0.length) : (txt l0 (j : Int)).length ≤ 600 * (j + 1) := by
  have hS := formSpec_shape l0 h
  have hg : formGo l0 l0 0 [] = none := by
    unfold formSpec at h
    have h0 := hS.pos
    have h1 := hS.few
    rwa [if_neg (by omega), if_neg (by omega)] at h
  exact txt_len_go l0 hS l0.length 0 [] rfl (Nat.zero_le _) hg (by simp [cost]) j (Nat.zero_le _) hj

end Go.Proofs.YtghhnnbbjlipcaaGreatDoor.P
set_option linter.unusedVariables false
set_option linter.unusedSimpArgs false
namespace Go.Proofs.YtghhnnbbjlipcaaGreatDoor.H
open Go.RowKit Go.Proofs.YtghhnnbbjlipcaaGreatDoorW.PrintWords Go.Proofs.YtghhnnbbjlipcaaGreatDoorW.PrintLast Go.Proofs.YtghhnnbbjlipcaaGreatDoor.P
theorem fits_of {p : Pt} (h : partFitsB p = true) : fits p := by
  have h0 := h
  simp only [partFitsB, Bool.and_eq_true, decide_eq_true_eq] at h
  obtain ⟨⟨⟨h1, h2⟩, -⟩, h3, -⟩ := h
  refine ⟨h1, h2, fun e => ?_, fun e => ?_⟩
  · rw [e] at h3; simpa [numFitsB] using h3
  · rw [e] at h3; simpa [numFitsB] using h3
theorem part_all {base b : Nat} {A : Option Addr} {c : Nat} {l0 : List Pt} (hS : Shape l0) : ∀ (n j : Nat), j < n → j < l0.length → PartOk base b A c l0 (rend l0 n) (j : Int)
  | 0, j, h, _ => absurd h (Nat.not_lt_zero _)
  | n + 1, j, h, hj => by
    intro w bs hR hlen
    have hP := hS.parts j hj
    have hn := fit_num hP.fit
    have hsz := fit_size hP.fit
    have hfew := hS.few
    refine part_case (j : Int) (by omega) (by omega) _ rfl (fits_of hP.fit) hR ⟨?_, by have := hP.few; omega, hfew, ?_, by omega, by omega⟩ hlen
    · intro k hk
      obtain ⟨hk0, hk1⟩ := hP.kids k hk
      have hk2 : ((k.toNat : Nat) : Int) = k := by omega
      have := part_all (base := base) (b := b) (A := A) (c := c) hS n k.toNat (by omega) (by omega)
      rw [hk2] at this
      exact ⟨hk0, by omega, this⟩
    · show (rd_T45 l0 (j : Int)).f1.size ≤ 2000000
      omega
theorem join_ne (l0 : List Pt) (p : Pt) (sep : Bs) (f : Int → Bs) (ks : List Int) (hs : sep ≠ []) (h : 2 ≤ ks.length) : joinT l0 p sep f ks ≠ [] := by
  match ks, h with
  | k :: k2 :: ks, _ => simp [joinT, hs]
theorem txt_ne (l0 : List Pt) (hS : Shape l0) : txt l0 ((l0.length - 1 : Nat) : Int) ≠ [] := by
  have hp := hS.pos
  have hj : l0.length - 1 < l0.length := by omega
  rw [txt_eq l0 hS _ hj]
  have hP := (hS.parts _ hj).fit
  have hr := hS.root
  rw [show ((l0.length : Int) - 1) = ((l0.length - 1 : Nat) : Int) by omega] at hr
  generalize rd_T45 l0 ((l0.length - 1 : Nat) : Int) = p at *
  generalize txt l0 = f
  obtain ⟨k, s, n, ks⟩ := p
  simp only [condB, decide_eq_true_eq] at hr
  simp only [partFitsB, Bool.and_eq_true] at hP
  have hk := hP.2.2
  obtain ⟨h1, h2⟩ := hr
  have hc : k = 1 ∨ k = 2 ∨ k = 3 ∨ k = 4 ∨ k = 5 ∨ k = 6 ∨ k = 7 ∨ k = 8 ∨ k = 9 ∨ k = 10 := by omega
  rcases hc with rfl | rfl | rfl | rfl | rfl | rfl | rfl | rfl | rfl | rfl
  · simp [partT]
  · simp [partT]
  · simp [partT]
  · have hk2 : 2 ≤ ks.length := by simp [kidCountB] at hk; omega
    exact join_ne _ _ _ _ _ (by simp) hk2
  · have hk2 : 2 ≤ ks.length := by simp [kidCountB] at hk; omega
    exact join_ne _ _ _ _ _ (by simp) hk2
  · have hk2 : 2 ≤ ks.length := by simp [kidCountB] at hk; omega
    exact join_ne _ _ _ _ _ (by simp) hk2
  · have hk2 : 2 ≤ ks.length := by simp [kidCountB] at hk; omega
    show (if n = 0 then joinT l0 _ [32, 105, 110, 32] f ks else joinT l0 _ [32, 110, 111, 116, 105, 110, 32] f ks) ≠ []
    split
    · exact join_ne _ _ _ _ _ (by simp) hk2
    · exact join_ne _ _ _ _ _ (by simp) hk2
  · simp [partT, selT]
  · simp [partT, selT]
  · simp [partT, termT]
/-- The text, or the fault. -/
def textSpec (l0 : List Pt) : Bs × Option (Int × Int) := match validSpec l0 with
  | some f => ([], some f)
  | none => if 4096 < (txt l0 ((l0.length - 1 : Nat) : Int)).length then ([], some (131, -1)) else (txt l0 ((l0.length - 1 : Nat) : Int), none)
/-- What Text answers. -/
def TextAns (w : World) (s : Bs) (o : Option (Int × Int)) (e : Ending) (w' : World) : Prop := ∃ v, e = .returned (.tuple #[.string ⟨s.toArray⟩, v]) ∧ ErrIs w' v o ∧ Below w.heap.size w w'

set_option maxHeartbeats 4000000 in
set_option maxRecDepth 100000 in
theorem show_text (A0 : Option Addr) (c0 : Nat) (l0 : List Pt) (w : World) (hr : Kd.F k45 w (fun _ => True) A0 l0.length l0) (hc : l0.length ≤ c0)
    (ht : Lib.TabIs Tryz.prog w "internal/strconv.uint64pow10" .u64 Lib.pow10Tab) (hg : 0 < w.heap.size) :
    Calls Tryz.prog 19 #[.agg #[.slice A0 l0.length c0]] w (TextAns w (textSpec l0).1 (textSpec l0).2) := by
  have HR := Lib.hid (Kd.F_mono (Kd.F_bound hr) (fun _ h => h.2) : Kd.F k45 w (fun k => k < w.heap.size) A0 l0.length l0)
  have HC := Lib.hid hc
  have HT := Lib.hid ht
  have HG := Lib.hid hg
  clear hr hc ht hg
  have HW := Lib.hid ((Below.refl w.heap.size w).alloc (Nat.le_refl _) (.cells #[.slice A0 l0.length c0] 25))
  have HV := Lib.hid (show_valid A0 c0 l0)
  cases hv : validSpec l0 with
  | some f =>
    have hts : textSpec l0 = ([], some f) := by simp [textSpec, hv]
    rw [hts]
    rw [hv] at HV
    clear hv hts
    go_enter Tryz.func19, Tryz.ntmps19
    go_wp2_with (go_at_call 18; refine (HV.out _ (Kd.C_below (Kd.F_now HR.out) HW.out) HC.out).mono ?_; rintro e w1 ⟨v, rfl, hE, hB⟩; obtain ⟨fc, fa⟩ := f; obtain ⟨g, rfl, hrest⟩ := hE; have HE := Lib.hid hrest; clear hrest)
    go_ret2
    exact ⟨_, rfl, ⟨g, rfl, HE.out⟩, below_then HW.out HW.out.size hB⟩
  | none =>
    have hf : formSpec l0 = none := by
      unfold validSpec at hv
      cases hf : formSpec l0 with
      | some f => rw [hf] at hv; cases hv
      | none => rfl
    have hS := formSpec_shape l0 hf
    have hpos := hS.pos
    have hfew := hS.few
    have hlen := txt_len l0 hf (l0.length - 1) (by omega)
    have hne := txt_ne l0 hS
    have hrt : rend l0 l0.length ((l0.length - 1 : Nat) : Int) = txt l0 ((l0.length - 1 : Nat) : Int) := rend_txt l0 hS _ _ (by omega) (by omega) (by omega)
    have hpa : ∀ b, PartOk w.heap.size b A0 c0 l0 (rend l0 l0.length) ((l0.length - 1 : Nat) : Int) := fun b => part_all hS l0.length (l0.length - 1) (by omega) (by omega)
    have hts : textSpec l0 = if 4096 < (txt l0 ((l0.length - 1 : Nat) : Int)).length then ([], some (131, -1)) else (txt l0 ((l0.length - 1 : Nat) : Int), none) := by simp [textSpec, hv]
    rw [hts]
    rw [hv] at HV
    rw [show (((l0.length - 1 : Nat) : Int)) = (l0.length : Int) - 1 by omega] at hrt hpa hlen hne ⊢
    generalize ht : txt l0 ((l0.length : Int) - 1) = t at *
    have HPA := Lib.hid hpa
    have HRT := Lib.hid hrt
    have HNE := Lib.hid hne
    have HLEN := Lib.hid (show t.length ≤ 600000 by omega)
    clear hv hts hpa hrt hne hlen hS hf ht
    generalize hres : (if 4096 < t.length then (([], some (131, -1)) : Bs × Option (Int × Int)) else (t, none)) = res
    have HRES := Lib.hid hres
    clear hres
    have hwl : IntKind.i64.wrap ((l0.length : Int) - 1) = (l0.length : Int) - 1 := IntWalk.i64_in _ (by omega)
    go_enter Tryz.func19, Tryz.ntmps19
    go_wp2_with (go_at_call 18; refine (HV.out _ (Kd.C_below (Kd.F_now HR.out) HW.out) HC.out).mono ?_; rintro e w1 ⟨v, rfl, hE, hB⟩; cases hE; have HW1 := Lib.hid (below_then HW.out HW.out.size hB); have HB := Lib.hid hB; clear hB; have hc1 : w1.cell? ⟨w.heap.size, 0, none⟩ = some (.slice A0 l0.length c0) := pw_cell_below HB.out (by simp); have hc2 : (w1.alloc (.cells #[.slice A0 l0.length c0, .pointer none, .slice none 0 0] 93)).cell? ⟨w.heap.size, 0, none⟩ = some (.slice A0 l0.length c0) := pw_cell_below ((Below.refl _ _).alloc (Nat.le_refl _) _) hc1)
    go_wp2_with fail
    have K1 := Lib.hid (HW1.out.alloc HW1.out.size (.cells #[.slice A0 l0.length c0, .pointer none, .slice none 0 0] 93))
    have R1 : Hid (Rdy w.heap.size w1.heap.size A0 c0 l0 [] (w1.alloc (.cells #[.slice A0 l0.length c0, .pointer none, .slice none 0 0] 93))) :=
      Lib.hid ⟨.inl ⟨HW1.out.size, _, Go.heap_alloc_new _ _, ⟨by simp [Lib.byteCells], .inl ⟨rfl, rfl⟩⟩, by simp [Value.ownBlock]⟩, Kd.F_step HR.out (fun j hj _ => K1.out.block j hj), K1.out.size, var?_below K1.out gTab HG.out HT.out, HG.out⟩
    refine (HPA.out w1.heap.size _ [] R1.out (by rw [HRT.out]; have := HLEN.out; simp; omega)).mono ?_
    rintro e w5 ⟨rfl, i5, k5⟩
    rw [HRT.out, List.nil_append] at i5
    have I5 := Lib.hid i5
    have B5 := Lib.hid (K1.out.trans (k5.bel.mono (Nat.le_refl _)))
    clear i5 k5 hc1 hc2
    by_cases hlong : 4096 < t.length
    · have hlI : (4096 : Int) < (t.length : Int) := by omega
      have HR2 : Hid (res = ([], some (131, -1))) := Lib.hid (by rw [← HRES.out, if_pos hlong])
      clear hlong
      go_wp2_with (first | (go_at_call 37; refine (builderLen_any _ _ _ _ _ I5.out).mono ?_; rintro e w6 ⟨rfl, rfl⟩) | (go_at_call 38; refine (show_fault _ _ _).mono ?_; rintro e w7 ⟨rfl, rfl⟩))
      go_ret2
      rw [HR2.out]
      exact ⟨_, rfl, ErrIs.new _ _ _ rfl, B5.out.alloc B5.out.size _⟩
    · have hlI : ¬ ((4096 : Int) < (t.length : Int)) := by omega
      have hlB : decide ((4096 : Int) < (t.length : Int)) = false := decide_eq_false hlI
      have HR2 : Hid (res = (t, none)) := Lib.hid (by rw [← HRES.out, if_neg hlong])
      clear hlong
      go_wp2_with (first | (go_at_call 37; refine (builderLen_any _ _ _ _ _ I5.out).mono ?_; rintro e w6 ⟨rfl, rfl⟩) | (go_at_call 39; refine (builderString_any _ _ _ _ _ I5.out HNE.out).mono ?_; rintro e w7 ⟨rfl, hb7⟩))
      go_ret2
      rw [HR2.out]
      exact ⟨_, rfl, rfl, B5.out.trans hb7⟩

end Go.Proofs.YtghhnnbbjlipcaaGreatDoor.H
set_option linter.unusedVariables false
set_option linter.unusedSimpArgs false
namespace Go.Proofs.YtghhnnbbjlipcaaGreatDoor.H
open Go.RowKit Go.Proofs.YtghhnnbbjlipcaaGreatDoorW.PrintWords Go.Proofs.YtghhnnbbjlipcaaGreatDoorW.PrintLast Go.Proofs.YtghhnnbbjlipcaaGreatDoor.P
def awk : List Pt := [⟨1, ⟨#[]⟩, 0, []⟩, ⟨3, ⟨#[]⟩, 0, [0]⟩]
theorem awk_valid : validSpec awk = none := by rfl
theorem awk_nest : nestOf awk = 1 := by rfl
theorem awk_text : textSpec awk = ([33, 116, 114, 117, 101], none) := by rfl
theorem awk_F (W : World) (g h : Nat)
    (hg : W.heap[g]? = some (.cells #[.int .i64 1, .string ⟨#[]⟩, .int .i64 0, .slice none 0 0, .int .i64 3, .string ⟨#[]⟩, .int .i64 0, .slice (some ⟨h, 0, none⟩) 1 1] 45 (0, 0)))
    (hh : W.heap[h]? = some (.cells #[.int .i64 0] 3 (0, 0))) : Kd.F k45 W (fun _ => True) (some ⟨g, 0, none⟩) 2 awk := by
  intro W' hW
  have hg' := (hW g trivial (Array.getElem?_eq_some_iff.1 hg).1).trans hg
  have hh' := (hW h trivial (Array.getElem?_eq_some_iff.1 hh).1).trans hh
  refine ⟨rfl, by decide, fun _ => ⟨_, rfl, fun j p hp => ?_⟩⟩
  match j, hp with
  | 0, hp =>
    obtain rfl := Option.some.inj hp
    refine ⟨_, rfl, k45_mk W' ⟨1, ⟨#[]⟩, 0, []⟩ (A3 := none) (c3 := 0) (Nat.le_refl _) (Kd.C_nil _ _), fun i u hu => ?_⟩
    match i, hu with
    | 0, hu => obtain rfl := Option.some.inj hu; show W'.cell? ⟨g, 0, none⟩ = _; rw [Lib.cell_of_heap hg']; rfl
    | 1, hu => obtain rfl := Option.some.inj hu; show W'.cell? ⟨g, 1, none⟩ = _; rw [Lib.cell_of_heap hg']; rfl
    | 2, hu => obtain rfl := Option.some.inj hu; show W'.cell? ⟨g, 2, none⟩ = _; rw [Lib.cell_of_heap hg']; rfl
    | 3, hu => obtain rfl := Option.some.inj hu; show W'.cell? ⟨g, 3, none⟩ = _; rw [Lib.cell_of_heap hg']; rfl
  | 1, hp =>
    obtain rfl := Option.some.inj hp
    have hk : (Kd.int .i64).C W' (some ⟨h, 0, none⟩) 1 [0] := by
      refine ⟨rfl, by decide, fun _ => ⟨_, rfl, fun j p hp => ?_⟩⟩
      match j, hp with
      | 0, hp =>
        obtain rfl := Option.some.inj hp
        refine ⟨[.int .i64 0], rfl, rfl, fun i u hu => ?_⟩
        match i, hu with
        | 0, hu => obtain rfl := Option.some.inj hu; show W'.cell? ⟨h, 0, none⟩ = _; rw [Lib.cell_of_heap hh']; rfl
    refine ⟨_, rfl, k45_mk W' ⟨3, ⟨#[]⟩, 0, [0]⟩ (A3 := some ⟨h, 0, none⟩) (c3 := 1) (Nat.le_refl _) hk, fun i u hu => ?_⟩
    match i, hu with
    | 0, hu => obtain rfl := Option.some.inj hu; show W'.cell? ⟨g, 4, none⟩ = _; rw [Lib.cell_of_heap hg']; rfl
    | 1, hu => obtain rfl := Option.some.inj hu; show W'.cell? ⟨g, 5, none⟩ = _; rw [Lib.cell_of_heap hg']; rfl
    | 2, hu => obtain rfl := Option.some.inj hu; show W'.cell? ⟨g, 6, none⟩ = _; rw [Lib.cell_of_heap hg']; rfl
    | 3, hu => obtain rfl := Option.some.inj hu; show W'.cell? ⟨g, 7, none⟩ = _; rw [Lib.cell_of_heap hg']; rfl

/-- The world with the fixed tree in it. -/
def awkW (w : World) : World := ((w.alloc (.cells #[.int .i64 0] 3)).alloc (.cells #[.int .i64 1, .string ⟨#[]⟩, .int .i64 0, .slice none 0 0, .int .i64 3, .string ⟨#[]⟩, .int .i64 0, .slice (some ⟨w.heap.size, 0, none⟩) 1 1] 45)).alloc (.cells #[.slice (some ⟨w.heap.size + 1, 0, none⟩) 2 2] 25)
theorem awkW_below (w : World) : Below w.heap.size w (awkW w) := (((Below.refl _ _).alloc (Nat.le_refl _) _).alloc (by simp) _).alloc (by simp; omega) _
theorem awkW_F (w : World) : Kd.F k45 (awkW w) (fun _ => True) (some ⟨w.heap.size + 1, 0, none⟩) 2 awk := by
  refine awk_F (awkW w) (w.heap.size + 1) w.heap.size ?_ ?_
  · unfold awkW
    rw [Below.heap_alloc _ _ _ (by simp)]
    have := Go.heap_alloc_new (w.alloc (.cells #[.int .i64 0] 3)) (.cells #[.int .i64 1, .string ⟨#[]⟩, .int .i64 0, .slice none 0 0, .int .i64 3, .string ⟨#[]⟩, .int .i64 0, .slice (some ⟨w.heap.size, 0, none⟩) 1 1] 45)
    simpa using this
  · unfold awkW
    rw [Below.heap_alloc _ _ _ (by simp; omega), Below.heap_alloc _ _ _ (by simp)]
    exact Go.heap_alloc_new _ _
theorem awkW_cell (w : World) : (awkW w).cell? ⟨w.heap.size + 1 + 1, 0, none⟩ = some (.slice (some ⟨w.heap.size + 1, 0, none⟩) 2 2) := by
  unfold awkW
  have := Go.heap_alloc_new ((w.alloc (.cells #[.int .i64 0] 3)).alloc (.cells #[.int .i64 1, .string ⟨#[]⟩, .int .i64 0, .slice none 0 0, .int .i64 3, .string ⟨#[]⟩, .int .i64 0, .slice (some ⟨w.heap.size, 0, none⟩) 1 1] 45)) (.cells #[.slice (some ⟨w.heap.size + 1, 0, none⟩) 2 2] 25)
  rw [Lib.cell_of_heap (by simpa using this)]
  rfl
set_option maxHeartbeats 4000000 in
set_option maxRecDepth 100000 in
theorem awake_true (w : World) (ht : Lib.TabIs Tryz.prog w "internal/strconv.uint64pow10" .u64 Lib.pow10Tab) (hg : 0 < w.heap.size) :
    Calls Tryz.prog 21 #[] w fun e w' => e = .returned (.bool true) ∧ Below w.heap.size w w' := by
  have HT := Lib.hid ht
  have HG := Lib.hid hg
  have HX := Lib.hid (fun W A c h1 h2 h3 h4 => show_text A c awk W h1 h2 h3 h4)
  have HN := Lib.hid (fun W A c h1 h2 => show_nest A c awk W h1 h2)
  rw [awk_text] at HX
  rw [awk_valid, awk_nest] at HN
  clear ht hg
  go_enter Tryz.func21, Tryz.ntmps21
  go_wp2_with fail
  show Calls Tryz.prog 19 #[.agg #[.slice (some ⟨w.heap.size + 1, 0, none⟩) 2 2]] (awkW w) _
  have KB := Lib.hid (awkW_below w)
  have KF := Lib.hid (awkW_F w)
  have KC := Lib.hid (awkW_cell w)
  generalize awkW w = w0 at *
  refine (HX.out w0 _ 2 KF.out (by decide) (var?_below KB.out gTab HG.out HT.out) (Nat.lt_of_lt_of_le HG.out KB.out.size)).mono ?_
  rintro e w1 ⟨v, rfl, hE, hB⟩
  cases hE
  have HB := Lib.hid hB
  have hc1 : w1.cell? ⟨w.heap.size + 1 + 1, 0, none⟩ = some (.slice (some ⟨w.heap.size + 1, 0, none⟩) 2 2) := pw_cell_below hB KC.out
  clear hB
  go_wp2_with (go_at_call 22; refine (HN.out w1 _ 2 (Kd.C_below (Kd.F_now KF.out) HB.out) (by decide)).mono ?_; rintro e w2 ⟨v, rfl, hE, hB2⟩; cases hE)
  go_ret
  exact ⟨rfl, below_then KB.out KB.out.size (below_then HB.out HB.out.size hB2)⟩

end Go.Proofs.YtghhnnbbjlipcaaGreatDoor.H
set_option linter.unusedVariables false
set_option linter.unusedSimpArgs false
namespace Go.Proofs.YtghhnnbbjlipcaaGreatDoor.P
open Go.RowKit Go.Proofs.YtghhnnbbjlipcaaGreatDoorW.PrintWords Go.Proofs.YtghhnnbbjlipcaaGreatDoorW.PrintLast
/-- The kids of all parts. -/
def kidSum : List Pt → Nat
  | [] => 0
  | p :: ps => p.f3.length + kidSum ps
def largeB (l0 : List Pt) : Bool := decide (100000 < l0.length + kidSum l0)
/-- No list of kids is longer than this. -/
def Small (l0 : List Pt) : Prop := l0.length ≤ 140737488355328 ∧ ∀ j, j < l0.length → (rd_T45 l0 (j : Int)).f3.length ≤ 140737488355328
theorem large_go (l0 : List Pt) (hS : Small l0) : ∀ (d i n : Nat) (r : Bool), d = l0.length - i → i ≤ l0.length → n ≤ 281474976810656 → (r = true ↔ 100000 < n + kidSum (l0.drop i)) → Ev (fun k => berthref13_Large.l0 k (n : Int) (i : Int) l0) r
  | 0, i, n, r, hd, hi, hn, hr => by
    obtain rfl : i = l0.length := by omega
    rw [List.drop_length] at hr
    refine Ev.step (f := fun _ => some r) (fun k => ?_) (Ev.now _)
    simp only [berthref13_Large.l0, if_neg (Int.lt_irrefl _)]
    congr 1
    rw [Bool.eq_iff_iff, hr, decide_eq_true_eq]
    simp only [kidSum]; omega
  | d + 1, i, n, r, hd, hi, hn, hr => by
    have hS1 := hS.1
    have hlt : i < l0.length := by omega
    have h1 : (i : Int) < (l0.length : Int) := by omega
    have h2 : (0 : Int) ≤ (i : Int) := by omega
    have hw1 : wrap64 ((i : Int) + 1) = ((i + 1 : Nat) : Int) := by unfold wrap64; omega
    have hk := hS.2 i hlt
    rw [drop_part l0 i hlt] at hr
    simp only [kidSum] at hr
    by_cases h3 : (n : Int) ≤ 100000
    · have hw : wrap64 ((n : Int) + ((rd_T45 l0 (i : Int)).f3.length : Int)) = ((n + (rd_T45 l0 (i : Int)).f3.length : Nat) : Int) := by unfold wrap64; omega
      have ih := large_go l0 hS d (i + 1) (n + (rd_T45 l0 (i : Int)).f3.length) r (by omega) hlt (by omega) (by rw [hr, Nat.add_assoc])
      exact Ev.step (fun k => by simp only [berthref13_Large.l0, if_pos h1, if_pos h3, if_pos h2, hw, hw1]) ih
    · obtain rfl : r = true := hr.2 (by omega)
      refine Ev.step (f := fun _ => some true) (fun k => ?_) (Ev.now _)
      simp only [berthref13_Large.l0, if_pos h1, if_neg h3]
      congr 1
      rw [decide_eq_true_eq]; omega
theorem large_ev (l0 : List Pt) (hS : Small l0) : Ev (fun k => berthref13_Large.f k l0) (largeB l0) :=
  large_go l0 hS l0.length 0 l0.length _ rfl (Nat.zero_le _) (by have := hS.1; omega) (by simp [largeB])
theorem kids_le_sum : ∀ (l : List Pt) (j : Nat), j < l.length → (rd_T45 l (j : Int)).f3.length ≤ kidSum l
  | [], j, h => absurd h (Nat.not_lt_zero _)
  | p :: ps, 0, _ => by simp [rd_T45, kidSum]
  | p :: ps, j + 1, h => by
    have ih := kids_le_sum ps j (by simpa using h)
    have e : rd_T45 (p :: ps) ((j + 1 : Nat) : Int) = rd_T45 ps (j : Int) := by
      show (p :: ps).getD ((j + 1 : Nat) : Int).toNat _ = ps.getD ((j : Nat) : Int).toNat _
      rw [Int.toNat_natCast, Int.toNat_natCast]; rfl
    rw [e]; simp only [kidSum]; omega
theorem copy_go (l0 : List Pt) (hS : l0.length + kidSum l0 ≤ 100000) : ∀ (d i : Nat), d = l0.length - i → i ≤ l0.length → Ev (fun k => berthref13_Copy.l0 k (l0.take i) (i : Int) l0) l0
  | 0, i, hd, hi => by
    obtain rfl : i = l0.length := by omega
    rw [List.take_length]
    exact Ev.step (f := fun _ => some l0) (fun k => by simp only [berthref13_Copy.l0, if_neg (Int.lt_irrefl _)]) (Ev.now _)
  | d + 1, i, hd, hi => by
    have hlt : i < l0.length := by omega
    have h1 : (i : Int) < (l0.length : Int) := by omega
    have h2 : (0 : Int) ≤ (i : Int) := by omega
    have hw1 : wrap64 ((i : Int) + 1) = ((i + 1 : Nat) : Int) := by unfold wrap64; omega
    have hk := kids_le_sum l0 i hlt
    have ih := copy_go l0 hS d (i + 1) (by omega) hlt
    have ht : l0.take i ++ [rd_T45 l0 (i : Int)] = l0.take (i + 1) := by
      rw [List.take_succ_eq_append_getElem hlt]
      congr 2
      simp [rd_T45, List.getD_eq_getElem?_getD, List.getElem?_eq_getElem hlt]
    refine Ev.step (fun k => ?_) ih
    simp only [berthref13_Copy.l0, if_pos h1, if_pos h2, Option.bind_some, List.nil_append, List.length_nil, Nat.zero_add, hw1]
    rw [if_pos (by omega), if_pos (by simp; omega)]
    rw [ht]
theorem copy_ev (l0 : List Pt) (hS : Small l0) : Ev (fun k => berthref13_Copy.f k l0) l0 := by
  refine Ev.bind (large_ev l0 hS) ?_
  cases hl : largeB l0 with
  | true => exact Ev.congr (f := fun _ => some l0) (fun k => by simp) (Ev.now _)
  | false => exact Ev.congr (f := fun k => berthref13_Copy.l0 k (l0.take 0) ((0 : Nat) : Int) l0) (fun k => by simp) (copy_go l0 (by simp [largeB] at hl; exact hl) l0.length 0 rfl (Nat.zero_le _))

end Go.Proofs.YtghhnnbbjlipcaaGreatDoor.P
set_option linter.unusedVariables false
set_option linter.unusedSimpArgs false
namespace Go.Proofs.YtghhnnbbjlipcaaGreatDoor.H
open Go.RowKit Go.Proofs.YtghhnnbbjlipcaaGreatDoorW.PrintWords Go.Proofs.YtghhnnbbjlipcaaGreatDoorW.PrintLast Go.Proofs.YtghhnnbbjlipcaaGreatDoor.P
/-- What a law finds: a tree in memory, the library's table. -/
structure Law (w : World) (A : Option Addr) (c : Nat) (l0 : List Pt) : Prop where
  tree : Kd.F k45 w (fun _ => True) A l0.length l0
  cap : l0.length ≤ c
  small : Small l0
  tab : Lib.TabIs Tryz.prog w "internal/strconv.uint64pow10" .u64 Lib.pow10Tab
  big : 0 < w.heap.size
theorem Law.below {w w' : World} {A : Option Addr} {c : Nat} {l0 : List Pt} (h : Law w A c l0) (k : Below w.heap.size w w') : Law w' A c l0 :=
  ⟨Kd.F_mono (Kd.F_step (Kd.F_bound h.tree) (fun j hj hl => k.block j hl)) (fun _ _ => trivial), h.cap, h.small, var?_below k gTab h.big h.tab, Nat.lt_of_lt_of_le h.big k.size⟩
theorem Law.reads {w : World} {A : Option Addr} {c : Nat} {l0 : List Pt} (h : Law w A c l0) : Kd.C k45 w A l0.length l0 := Kd.F_now h.tree
/-- A call of Copy. -/
theorem copy_c (A : Option Addr) (c : Nat) (l0 : List Pt) (w : World) (h : Law w A c l0) :
    Calls Tryz.prog 23 #[.agg #[.slice A l0.length c]] w fun e w' => ∃ A' c', e = .returned (.agg #[.slice A' l0.length c']) ∧ Law w' A' c' l0 ∧ Below w.heap.size w w' := by
  obtain ⟨k, hk⟩ := (copy_ev l0 h.small).rounds
  refine (berthref13_Copy.calls k (fun _ => True) A c l0 l0 w ⟨A, c, rfl, h.cap, h.tree⟩ hk).mono ?_
  rintro e w' ⟨v, rfl, ⟨A', c', rfl, hc, hF⟩, hB⟩
  exact ⟨A', c', rfl, ⟨Kd.F_mono hF (fun _ _ => trivial), hc, h.small, var?_below hB gTab h.big h.tab, Nat.lt_of_lt_of_le h.big hB.size⟩, hB⟩

end Go.Proofs.YtghhnnbbjlipcaaGreatDoor.H
set_option linter.unusedVariables false
set_option linter.unusedSimpArgs false
namespace Go.Proofs.YtghhnnbbjlipcaaGreatDoor.H
open Go.RowKit Go.ChangeShapes Go.WideShapes Go.Deep Go.Proofs.YtghhnnbbjlipcaaGreatDoorW.PrintWords Go.Proofs.YtghhnnbbjlipcaaGreatDoorW.PrintLast Go.Proofs.YtghhnnbbjlipcaaGreatDoor.P
variable {H : Type} {enc : TypeId × Value → H} {W : World} {fuel : Nat}

theorem cells_part : Tryz.prog.cellsOf 45 = 4 := by kernel_rfl
theorem cells_int : Tryz.prog.cellsOf 3 = 1 := by kernel_rfl
theorem cells_kind : Tryz.prog.cellsOf 43 = 1 := by kernel_rfl
theorem cells_string : Tryz.prog.cellsOf 9 = 1 := by kernel_rfl
theorem cells_ints : Tryz.prog.cellsOf 26 = 1 := by kernel_rfl
theorem cells_parts : Tryz.prog.cellsOf 23 = 1 := by kernel_rfl
theorem cells_tree : Tryz.prog.cellsOf 25 = 1 := by kernel_rfl
theorem bytes_int : Tryz.prog.bytesOf 3 = 8 := by kernel_rfl
theorem bytes_part : Tryz.prog.bytesOf 45 = 56 := by kernel_rfl
/-- What a world holds, a world that agrees on its blocks holds. -/
theorem cell_agree {W W' : World} (hW : ∀ k, True → k < W.heap.size → W'.heap[k]? = W.heap[k]?) {a : Addr} {u : Value} (h : W.cell? a = some u) : W'.cell? a = some u := by
  have hl : a.block < W.heap.size := World.block_lt_of_cell? W a h
  unfold World.cell? at h ⊢
  rw [hW _ trivial hl]
  exact h
theorem ints_F {a : Addr} {len : Nat} {zs : List Int} (hl : zs.length = len) (hm : len ≤ 9223372036854775807) (h : ∀ i, i < len → W.cell? (a.add i) = some (.int .i64 (zs.getD i 0))) : Kd.F (Kd.int .i64) W (fun _ => True) (some a) len zs := by
  intro W' hW
  refine ⟨hl, hm, fun _ => ⟨a, rfl, fun j p hp => ⟨[.int .i64 p], rfl, rfl, fun i u hu => ?_⟩⟩⟩
  have hj : j < len := by rw [← hl]; exact (List.getElem?_eq_some_iff.1 hp).1
  have e : zs.getD j 0 = p := by rw [List.getD_eq_getElem?_getD, hp]; rfl
  match i, hu with
  | 0, hu =>
    obtain rfl := Option.some.inj hu
    have := cell_agree hW (h j hj)
    rw [e] at this
    simpa [Kd.int, Kd.scalar] using this
set_option maxRecDepth 100000 in
/-- One part, out of its four cells. -/
theorem part_of_trod {cs : List Value} {d : DataW H} {ps : List MemPlace} (hc : cs.length = 4) (h : DataW.trod enc Tryz.prog W 0 (fun _ => true) true fuel 45 cs = some (d, ps)) :
    ∃ (p : Pt) (A3 : Option Addr) (c3 : Nat), cs = [.int .i64 p.f0, .string p.f1, .int .i64 p.f2, .slice A3 p.f3.length c3] ∧ p.f3.length ≤ c3 ∧ Kd.F (Kd.int .i64) W (fun _ => True) A3 p.f3.length p.f3 ∧
      ((∀ n ∈ d.weights Tryz.prog 45, n ≤ reachBytes) → p.f3.length ≤ 140737488355328) := by
  obtain ⟨xs, n, rfl, hx, hlen, hxs, hf⟩ := DataW.trod_struct Tryz.underlying45 h
  match cs, hc with
  | [v0, v1, v2, v3], _ =>
  match xs, hxs with
  | [x0, x1, x2, x3], _ =>
  have h0 : DataW.trod enc Tryz.prog W 0 (fun _ => true) true n 43 (([v0, v1, v2, v3].drop 0).take (Tryz.prog.cellsOf 43)) = some x0 := hf 0 _ rfl
  have h1 : DataW.trod enc Tryz.prog W 0 (fun _ => true) true n 9 (([v0, v1, v2, v3].drop 1).take (Tryz.prog.cellsOf 9)) = some x1 := hf 1 _ rfl
  have h2 : DataW.trod enc Tryz.prog W 0 (fun _ => true) true n 3 (([v0, v1, v2, v3].drop 2).take (Tryz.prog.cellsOf 3)) = some x2 := hf 2 _ rfl
  have h3 : DataW.trod enc Tryz.prog W 0 (fun _ => true) true n 26 (([v0, v1, v2, v3].drop 3).take (Tryz.prog.cellsOf 26)) = some x3 := hf 3 _ rfl
  rw [cells_kind] at h0
  rw [cells_string] at h1
  rw [cells_int] at h2
  rw [cells_ints] at h3
  obtain ⟨k, e0, -, -⟩ := DataW.trod_int Tryz.underlying43 h0
  obtain ⟨s, e1, -, -⟩ := DataW.trod_string Tryz.underlying9 h1
  obtain ⟨m, e2, -, -⟩ := DataW.trod_int Tryz.underlying3 h2
  obtain rfl : v0 = .int .i64 k := by simpa using e0
  obtain rfl : v1 = .string s := by simpa using e1
  obtain rfl : v2 = .int .i64 m := by simpa using e2
  have hw : ∀ n ∈ x3.1.weights Tryz.prog 26, n ∈ d.weights Tryz.prog 45 := by
    intro n hn
    obtain ⟨rfl, rfl⟩ := Prod.mk.inj hx
    simp only [List.map, DataW.weights, Tryz.underlying45]
    exact DataW.weights_mem_each (j := 3) rfl rfl n hn
  rcases open_ints Tryz.underlying26 Tryz.underlying3 cells_int h3 with ⟨e3, hx3⟩ | ⟨a, len, cap, zs, e3, _, hlc, hcm, hzl, hx3, hcell, _⟩
  · obtain rfl : v3 = .slice none 0 0 := by simpa using e3
    exact ⟨⟨k, s, m, []⟩, none, 0, rfl, Nat.le_refl _, Kd.F_nil _ _ _, fun _ => Nat.zero_le _⟩
  · obtain rfl : v3 = .slice (some a) len cap := by simpa using e3
    simp only [if_true] at hzl
    have htl : (zs.take len).length = len := by rw [List.length_take]; omega
    have hmx : len ≤ 9223372036854775807 := by have : cap ≤ 2 ^ 63 - 1 := hcm; omega
    refine ⟨⟨k, s, m, zs.take len⟩, some a, cap, by simp only [htl], by rw [htl]; exact hlc, ?_, fun hall => ?_⟩
    · rw [htl]
      refine ints_F htl hmx (fun i hi => ?_)
      rw [hcell i (by omega)]
      simp [List.getD_eq_getElem?_getD, List.getElem?_take, hi]
    · have := hall _ (hw _ (by rw [hx3]; simp only [DataW.weights, Tryz.underlying26]; exact List.mem_cons_self ..))
      rw [bytes_int] at this
      simp only [lits, List.length_map, reachBytes] at this
      rw [htl]
      simp at this
      omega
set_option maxRecDepth 100000 in
/-- A tree. -/
theorem tree_of_trod {b0 : Nat} {v : Value} {d : DataW H} {ps : List MemPlace} (hval : Value.okWide Tryz.prog W .any b0 25 v) (h : DataW.Trod enc Tryz.prog W 0 (fun _ => true) true 25 v d ps)
    (hw : ∀ n ∈ d.weights Tryz.prog 25, n ≤ reachBytes) :
    ∃ (A : Option Addr) (c : Nat) (l0 : List Pt), v = .agg #[.slice A l0.length c] ∧ l0.length ≤ c ∧ Kd.F k45 W (fun _ => True) A l0.length l0 ∧ Small l0 := by
  obtain ⟨cs, rfl, hsz⟩ := okWide_struct Tryz.underlying25 hval
  rw [cells_tree] at hsz
  obtain ⟨fu, hf⟩ := h
  have hcells : (Value.agg cs).cells.toList = cs.toList := rfl
  rw [hcells] at hf
  obtain ⟨cl⟩ := cs
  match cl, hsz with
  | [v0], _ =>
  obtain ⟨y0, n, hx, -, htr⟩ := trod_struct1 Tryz.underlying25 hf
  obtain ⟨rfl, rfl⟩ := Prod.mk.inj hx
  replace htr : DataW.trod enc Tryz.prog W 0 (fun _ => true) true n 23 (([v0].drop 0).take (Tryz.prog.cellsOf 23)) = some y0 := htr
  rw [cells_parts] at htr
  have hw2 : ∀ n ∈ y0.1.weights Tryz.prog 23, n ≤ reachBytes := by
    intro n hn
    refine hw n ?_
    simp only [DataW.weights, Tryz.underlying25]
    exact DataW.weights_mem_each (j := 0) rfl rfl n hn
  rcases open_slice Tryz.underlying23 htr with ⟨e0, hx0⟩ | ⟨a, len, cap, m, n', D, Pl, e0, _, hlc, hcm, hm, hx0, hcell⟩
  · obtain rfl : v0 = .slice none 0 0 := by simpa using e0
    exact ⟨none, 0, [], rfl, Nat.le_refl _, Kd.F_nil _ _ _, Nat.zero_le _, fun j hj => absurd hj (Nat.not_lt_zero _)⟩
  · obtain rfl : v0 = .slice (some a) len cap := by simpa using e0
    simp only [if_true] at hm
    subst hm
    rw [hx0] at hw2
    simp only [DataW.weights, Tryz.underlying23] at hw2
    have hlen := hw2 _ (List.mem_cons_self ..)
    rw [bytes_part] at hlen
    simp only [List.length_map, List.length_range, reachBytes] at hlen
    have key : ∀ i, ∃ p : Pt, i < len → ∃ (A3 : Option Addr) (c3 : Nat), W.cells? 0 (a.add (i * 4)) 4 = some [.int .i64 p.f0, .string p.f1, .int .i64 p.f2, .slice A3 p.f3.length c3] ∧ p.f3.length ≤ c3 ∧ Kd.F (Kd.int .i64) W (fun _ => True) A3 p.f3.length p.f3 ∧ p.f3.length ≤ 140737488355328 := by
      intro i
      by_cases hi : i < len
      · obtain ⟨cs', hc', ht'⟩ := hcell i (by omega)
        rw [cells_part] at hc'
        obtain ⟨p, A3, c3, rfl, h1, h2, h3⟩ := part_of_trod (World.cells?_some hc').2.1 ht'
        refine ⟨p, fun _ => ⟨A3, c3, hc', h1, h2, h3 (fun n hn => hw2 n (List.mem_cons_of_mem _ (List.mem_append_left _ ?_)))⟩⟩
        have go : ∀ (l : List (DataW H)) (d : DataW H), d ∈ l → ∀ n ∈ d.weights Tryz.prog 45, n ∈ DataW.weightsAll Tryz.prog 45 l := by
          intro l
          induction l with
          | nil => intro d hd; cases hd
          | cons x l ih =>
            intro d hd n hn
            simp only [DataW.weightsAll, List.mem_append]
            rcases List.mem_cons.1 hd with rfl | hd
            · exact .inl hn
            · exact .inr (ih d hd n hn)
        exact go _ (D i) (List.mem_map.2 ⟨i, List.mem_range.2 hi, rfl⟩) n hn
      · exact ⟨z45, fun h => absurd h hi⟩
    obtain ⟨f, hfp⟩ := Classical.skolem.1 key
    have hl0 : ((List.range len).map f).length = len := by simp
    have hget : ∀ j, j < len → ((List.range len).map f)[j]? = some (f j) := fun j hj => by simp [hj]
    refine ⟨some a, m, (List.range len).map f, by rw [hl0], by rw [hl0]; exact hlc, ?_, by rw [hl0]; omega, fun j hj => ?_⟩
    · rw [hl0]
      intro W' hW
      refine ⟨hl0, by have : m ≤ 2 ^ 63 - 1 := hcm; omega, fun _ => ⟨a, rfl, fun j p hp => ?_⟩⟩
      have hj : j < len := by rw [← hl0]; exact (List.getElem?_eq_some_iff.1 hp).1
      rw [hget j hj] at hp
      obtain rfl := Option.some.inj hp
      obtain ⟨A3, c3, hcs, h1, h2, -⟩ := hfp j hj
      refine ⟨_, rfl, k45_mk W' (f j) h1 (h2 W' hW), fun i u hu => ?_⟩
      have hil : i < 4 := (List.getElem?_eq_some_iff.1 hu).1
      have := (World.cells?_some hcs).2.2 i hil
      rw [hu] at this
      have e := cell_agree hW this
      rw [Addr.add_add] at e
      exact e
    · rw [hl0] at hj
      have e : rd_T45 ((List.range len).map f) (j : Int) = f j := by
        simp only [rd_T45, Int.toNat_natCast, List.getD_eq_getElem?_getD, hget j hj, Option.getD_some]
      rw [e]
      obtain ⟨_, _, _, _, _, h3⟩ := hfp j hj
      exact h3

end Go.Proofs.YtghhnnbbjlipcaaGreatDoor.H
