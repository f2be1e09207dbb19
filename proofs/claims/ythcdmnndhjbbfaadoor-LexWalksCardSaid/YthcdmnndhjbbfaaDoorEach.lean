/-
  The walks of Each and of the function that it answers: an iterator's contract.
-/
import Derived.Test.YthcdmnndhjbbfaaDoorRangeR
import Derived.Test.YthcdmnndhjbbfaaDoorTokRow
import Derived.Shelf.Abstract
import Derived.OwnWalkIn
import Derived.TacticsInMore
import Derived.LoopNIn
import Derived.LoopIn
import Derived.Stop.RegionWithIn
import Derived.Sort.CutIn
set_option linter.unusedVariables false
set_option linter.unusedSimpArgs false
namespace Go.Proofs.YthcdmnndhjbbfaaDoor.X
open Go.RowKit
theorem each_any (s : ByteArray) (w : World) :
    Calls Tryd.prog 22 #[.string s] w fun e w' => e = .returned (.func (.func 32) #[] #[.pointer (some ⟨w.heap.size, 0, none⟩)]) ∧ w.alloc (.cells #[.string s] 9) = w' := by
  go_enter Tryd.func22, Tryd.ntmps22
  go_wp2
  go_ret
  exact ⟨rfl, rfl⟩

/-- The block of the slice that stands in a box. -/
def roOf : Option Nat → World → Option Nat
  | none, _ => none
  | some B, W => (W.cell? ⟨B, 0, none⟩).bind Value.ownBlock
/-- What a loop's body keeps: all cells, but its own variables (Bs) and the row that stands in one of them. -/
structure Spares (B0 : Nat) (Bs : List Nat) (ro : Option Nat) (W W' : World) : Prop where
  below : Below B0 W W'
  keeps : ∀ b cs t fr, b ∉ Bs → roOf ro W ≠ some b → W.heap[b]? = some (.cells cs t fr) → W'.heap[b]? = some (.cells cs t fr)
  row : roOf ro W' = roOf ro W ∨ ∃ g, roOf ro W' = some g ∧ W.heap.size ≤ g ∧ g < W'.heap.size
theorem Spares.size {B0 : Nat} {Bs : List Nat} {ro : Option Nat} {A B : World} (h : Spares B0 Bs ro A B) : A.heap.size ≤ B.heap.size := h.below.size
theorem Spares.trans {B0 : Nat} {Bs : List Nat} {ro : Option Nat} {A B C : World} (h : Spares B0 Bs ro A B) (k : Spares B0 Bs ro B C) : Spares B0 Bs ro A C where
  below := h.below.trans k.below
  keeps := fun b cs t fr hb hr hc => k.keeps b cs t fr hb (fun e => by
    rcases h.row with h1 | ⟨g, h1, h2, h3⟩
    · exact hr (h1.symm.trans e)
    · have : g = b := Option.some.inj (h1.symm.trans e)
      have := (Array.getElem?_eq_some_iff.1 hc).1
      omega) (h.keeps b cs t fr hb hr hc)
  row := by
    rcases k.row with k1 | ⟨g, k1, k2, k3⟩
    · rcases h.row with h1 | ⟨g, h1, h2, h3⟩
      · exact .inl (k1.trans h1)
      · exact .inr ⟨g, k1.trans h1, h2, Nat.lt_of_lt_of_le h3 k.size⟩
    · exact .inr ⟨g, k1, Nat.le_trans h.size k2, k3⟩
theorem roOf_block {ro : Option Nat} {W W' : World} (h : ∀ B, ro = some B → W'.heap[B]? = W.heap[B]?) : roOf ro W' = roOf ro W := by
  cases ro with
  | none => rfl
  | some B => simp only [roOf, World.cell?_of_block (a := ⟨B, 0, none⟩) (h B rfl)]
/-- New memory alone. -/
theorem Spares.of_below {B0 : Nat} {Bs : List Nat} {ro : Option Nat} {W W' : World} (h : Below W.heap.size W W') (hB : B0 ≤ W.heap.size) (hr : ∀ B, ro = some B → B < W.heap.size) : Spares B0 Bs ro W W' where
  below := h.mono hB
  keeps := fun b cs t fr _ _ hc => (h.block b (Array.getElem?_eq_some_iff.1 hc).1).trans hc
  row := .inl (roOf_block fun B e => h.block B (hr B e))
theorem Spares.turn {B0 : Nat} {Bs : List Nat} {ro : Option Nat} (W : World) (l : Nat) (o o' : Obj) (hl : W.heap[l]? = some o) (ho : o.isCells = false) (hB : B0 ≤ l) (hr : ∀ B, ro = some B → B < l) : Spares B0 Bs ro W (W.putObj l o') where
  below := (Below.refl B0 W).grown (grownBy_putObj' W l o') (by have := (Array.getElem?_eq_some_iff.1 hl).1; omega) (fun k e => by cases e; exact hB)
  keeps := fun b cs t fr _ _ hc => by
    refine (World.putObj_heap_other (fun e => ?_)).trans hc
    subst e
    rw [hl] at hc
    cases hc
    cases ho
  row := .inl (roOf_block fun B e => World.putObj_heap_other (by have := hr B e; omega))
/-- What is handed over: a token, or a fault that lies in block b. -/
inductive It where
  | tok (t : Tk)
  | flt (c : Int) (a b : Nat)
def itV : It → Array Value
  | .tok t => #[tokV t, .nilIface]
  | .flt c a b => #[.agg zeroCells, .iface 47 (.pointer (some ⟨b, 0, none⟩))]
/-- What is known of it, in the world of that moment. -/
def ItR (l : Bs) (base : Nat) (pre : List It) (x : It) (W : World) : Prop := match x with
  | .tok t => (prefixL l).1[pre.length]? = some t
  | .flt c a b => pre.length = (prefixL l).1.length ∧ (prefixL l).2 = some (c, a) ∧ base ≤ b ∧ W.heap[b]? = some (faultObj c a)
/-- All has come. -/
def ItS (l : Bs) (xs : List It) : Prop := match (prefixL l).2 with
  | none => xs = (prefixL l).1.map .tok
  | some f => ∃ b, xs = (prefixL l).1.map .tok ++ [.flt f.1 f.2 b]
theorem LW.kept {w w' : World} {B : Nat} (h : LW w) (k : Below B w w') (hb : 8 < B) : LW w' := by
  have hb2 := h.big
  obtain ⟨t1, p1, h1⟩ := h.syn
  obtain ⟨t2, p2, h2⟩ := h.ran
  exact ⟨var?_below k gTab (by omega) h.tab, ⟨t1, p1, var?_below k gSyn (by omega) h1⟩, ⟨t2, p2, var?_below k gRan (by omega) h2⟩, Nat.lt_of_lt_of_le hb2 k.size⟩

theorem LW.drew {w : World} (h : LW w) : LW w.drew := ⟨h.tab, h.syn, h.ran, h.big⟩
theorem LW.alloc {w : World} (h : LW w) (o : Obj) : LW (w.alloc o) := h.below ((Below.refl _ _).alloc (Nat.le_refl _) _)
theorem lex_ok {w w2 : World} {t : Tk} {e : Ending} (h : LexAns w (.ok t) e w2) :
    e = .returned (.tuple #[.agg #[.int .i64 t.kind, .string ⟨t.text.toArray⟩, .int .i64 t.num, .int .i64 t.at_, .int .i64 t.end_], .pointer none]) ∧ Below w.heap.size w w2 := h
theorem lex_err {w w2 : World} {c : Int} {a : Nat} {e : Ending} (h : LexAns w (.error (c, a)) e w2) :
    ∃ b, e = .returned (.tuple #[.agg #[.int .i64 0, .string ⟨#[]⟩, .int .i64 0, .int .i64 0, .int .i64 0], .pointer (some ⟨b, 0, none⟩)]) ∧ w.heap.size ≤ b ∧ w2.heap[b]? = some (faultObj c a) ∧ Below w.heap.size w w2 := h

/-- Where the token that next has answered has come to lie. -/
def Laid (wr wx : World) (b : Nat) (cs : Array Value) : Prop := wr.heap.size ≤ b ∧ wx.heap[b]? = some (.cells cs 44 (0, 0)) ∧ Below wr.heap.size wr wx
theorem laid_new {wr w2 : World} (h : Below wr.drew.heap.size wr.drew w2) (cs : Array Value) : Laid wr (w2.alloc (.cells cs 44)) w2.heap.size cs :=
  ⟨h.size, Go.heap_alloc_new w2 _, (Below.mk h.os h.tape h.output h.size h.block : Below wr.heap.size wr w2).alloc h.size _⟩
theorem laid_old {wr w2 : World} {o : Obj} (h : Below (wr.alloc o).drew.heap.size (wr.alloc o).drew w2) (a0 a1 a2 a3 a4 b0 b1 b2 b3 b4 : Value) (hb : w2.heap[wr.heap.size]? = some (.cells #[a0, a1, a2, a3, a4] 44 (0, 0))) :
    Laid wr (set5 w2 wr.heap.size b0 b1 b2 b3 b4) wr.heap.size #[b0, b1, b2, b3, b4] :=
  ⟨Nat.le_refl _, set5_same _ _ _ _ _ _ _ _ _ _ _ _ _ hb, set5_below (((Below.refl _ wr).alloc (Nat.le_refl _) o).trans ((Below.mk h.os h.tape h.output h.size h.block : Below (wr.alloc o).heap.size (wr.alloc o) w2).mono (by simp))) _ (Nat.le_refl _) _ _ _ _ _⟩

/-- Where the fault that next has answered lies. -/
def LaidF (wr wx : World) (b : Nat) (o : Obj) : Prop := wr.heap.size ≤ b ∧ wx.heap[b]? = some o ∧ Below wr.heap.size wr wx
theorem laidF_new {wr w2 : World} (h : Below wr.drew.heap.size wr.drew w2) (cs : Array Value) {b : Nat} {o : Obj} (hb : wr.drew.heap.size ≤ b) (ho : w2.heap[b]? = some o) : LaidF wr (w2.alloc (.cells cs 44)) b o :=
  ⟨hb, (Below.heap_alloc _ _ _ (Array.getElem?_eq_some_iff.1 ho).1).trans ho, (Below.mk h.os h.tape h.output h.size h.block : Below wr.heap.size wr w2).alloc h.size _⟩
theorem laidF_old {wr w2 : World} {o1 : Obj} (h : Below (wr.alloc o1).drew.heap.size (wr.alloc o1).drew w2) (b0 b1 b2 b3 b4 : Value) {b : Nat} {o : Obj} (hb : (wr.alloc o1).drew.heap.size ≤ b) (ho : w2.heap[b]? = some o) :
    LaidF wr (set5 w2 wr.heap.size b0 b1 b2 b3 b4) b o := by
  have hb2 : (wr.alloc o1).heap.size ≤ b := hb
  rw [World.size_alloc] at hb2
  exact ⟨by omega, (set5_other _ _ _ (by omega) _ _ _ _ _).trans ho, set5_below (((Below.refl _ wr).alloc (Nat.le_refl _) o1).trans ((Below.mk h.os h.tape h.output h.size h.block : Below (wr.alloc o1).heap.size (wr.alloc o1) w2).mono (by simp))) _ (Nat.le_refl _) _ _ _ _ _⟩

set_option maxHeartbeats 4000000 in
set_option maxRecDepth 100000 in
theorem each1_seq (n : Nat) (hn : 1 ≤ n) (s : ByteArray) (hs : s.size ≤ 9223372036854775807) (sb B0 : Nat) (Bs : List Nat) (ro : Option Nat) (w : World) (hB0 : 8 < B0) (hB : B0 ≤ w.heap.size) (hBs : ∀ b ∈ Bs, b < w.heap.size) (hro : ∀ B, ro = some B → B < w.heap.size ∧ B0 ≤ B)
    (hsb : w.heap[sb]? = some (.cells #[.string s] 9 (0, 0))) (hsb2 : sb ∉ Bs) (hg : ∀ g, roOf ro w = some g → g < w.heap.size ∧ g ≠ sb) (hL : LW w) :
    SeqR Fence.wide n Tryd.prog 32 #[.pointer (some ⟨sb, 0, none⟩)] itV (ItR s.data.toList w.heap.size) (Spares B0 Bs ro) (ItS s.data.toList) (fun _ => True) w := by
  intro l J Jx W hW hJ hJx hY h0
  refine callsIn_of_wp Tryd.func32 rfl trivial ?_
  simp only [Tryd.ntmps32, List.size_toArray, List.length_cons, List.length_nil, Nat.reduceAdd, Nat.reduceSub, Array.replicate_succ, Array.replicate_zero, List.push_toArray, List.append_toArray, List.nil_append, List.cons_append]
  by_cases hlong : 4096 < s.size
  · have hI : (4096 : Int) < (s.size : Int) := by omega
    have hP : prefixL s.data.toList = ([], some (110, 4096)) := by unfold prefixL; rw [size_len, if_pos hlong]
    have hsbl := (Array.getElem?_eq_some_iff.1 hsb).1
    have hcW : W.cell? ⟨sb, 0, none⟩ = some (.string s) := by simp [World.cell?, hW.block sb hsbl, hsb]
    obtain ⟨fn, tmps, assign, body, hy, hR⟩ := hY [] (.flt 110 4096 W.heap.size) (W.alloc (faultObj 110 4096)) (hJ _ _ _ none h0 (World.grownBy_alloc _ _ _) (fun r e => by cases e)) ⟨by rw [hP]; rfl, by rw [hP], hW.size, Go.heap_alloc_new W _⟩
    dsimp only [itV] at hy
    have HR := Lib.hid hR
    have HS : Hid (∀ b, ItS s.data.toList [.flt 110 4096 b]) := Lib.hid (fun b => by simp only [ItS, hP]; exact ⟨b, rfl⟩)
    clear hR hP hlong hsb hsbl hY h0
    gi_wp2_with (refine ⟨trivial, ?_⟩; gi_at_call 26; refine (callsIn_wide.2 (fault_any _ _ _)).mono ?_; rintro e w2 ⟨rfl, rfl⟩)
    refine HR.out.mono ?_
    rintro e W3 (⟨rfl, hJ3, hk3⟩ | ⟨rfl, hJx3⟩)
    · gi_wp2
      refine bodyPost_ret (results_none rfl _ _ _) rfl ?_
      exact ⟨⟨_, rfl⟩, .inl ⟨_, HS.out _, hJ3⟩⟩
    · gi_wp2
      refine bodyPost_ret (results_none rfl _ _ _) rfl ?_
      exact ⟨⟨_, rfl⟩, .inr ⟨_, trivial, hJx3⟩⟩
  · have hI : ¬ ((4096 : Int) < (s.size : Int)) := by omega
    have hs2 : s.size ≤ 4096 := by omega
    have hP : prefixL s.data.toList = scanN s.data.toList (s.size + 1) 0 := by unfold prefixL; rw [size_len, if_neg hlong]
    have hsbl := (Array.getElem?_eq_some_iff.1 hsb).1
    have hcW : W.cell? ⟨sb, 0, none⟩ = some (.string s) := by simp [World.cell?, hW.block sb hsbl, hsb]
    have HP := Lib.hid hP
    have HW0 : Hid (LW W ∧ W.heap[sb]? = some (.cells #[.string s] 9 (0, 0)) ∧ w.heap.size ≤ W.heap.size ∧ (∀ g, roOf ro W = some g → g < W.heap.size ∧ g ≠ sb)) :=
      Lib.hid ⟨hL.below hW, (hW.block sb hsbl).trans hsb, hW.size, fun g e => by
        rw [roOf_block (fun B e => hW.block B (hro B e).1)] at e
        exact ⟨Nat.lt_of_lt_of_le (hg g e).1 hW.size, (hg g e).2⟩⟩
    have HY := Lib.hid hY
    have HJ := Lib.hid hJ
    have H0 := Lib.hid h0
    have HRO := Lib.hid hro
    have HBS := Lib.hid hBs
    clear hP hlong hsb hY hJ hJx h0 hg hL hs hBs hro
    gi_wp2
    gi_loopw [3] (fun i wr => ∃ (k m : Nat) (acc : List Tk), k ≤ s.size ∧ i = .int .i64 k ∧ Hid (s.size + 1 ≤ m + k) ∧ Hid (prefixL s.data.toList = (acc ++ (scanN s.data.toList m k).1, (scanN s.data.toList m k).2)) ∧ Hid (J (acc.map .tok) wr) ∧ Hid (LW wr ∧ wr.heap[sb]? = some (.cells #[.string s] 9 (0, 0)) ∧ w.heap.size ≤ wr.heap.size ∧ (∀ g, roOf ro wr = some g → g < wr.heap.size ∧ g ≠ sb))) (fun i _ => s.size - (intOf i).toNat)
    case atStart => exact ⟨0, s.size + 1, [], by omega, rfl, Lib.hid (by omega), Lib.hid (by rw [HP.out]; rfl), H0, HW0⟩
    case round =>
      clear hcW HW0 H0
      obtain ⟨k, m, acc, hk, rfl, HM, HK, HJ2, HI⟩ := hrel
      have HLW := Lib.hid HI.out.1
      have hsk : skipN s.data.toList k ≤ s.size := by have := skipN_le (l := s.data.toList) (i := k) (by rw [size_len]; exact hk); rwa [size_len] at this
      have hskg := skipN_ge s.data.toList k
      have SC := Lib.hid (fun W => skip_any s k W (by omega) hk)
      have NC := Lib.hid (fun W h => next_any s (skipN s.data.toList k) W (by omega) hsk h)
      obtain ⟨m, rfl⟩ : ∃ m', m = m' + 1 := ⟨m - 1, by have := HM.out; omega⟩
      obtain ⟨r, hr⟩ : ∃ r, r = tokAt s.data.toList (skipN s.data.toList k) := ⟨_, rfl⟩
      rw [← hr] at NC
      obtain ⟨i, hi⟩ : ∃ i, i = skipN s.data.toList k := ⟨_, rfl⟩
      have SC2 : Hid (∀ W, Calls Tryd.prog 34 #[.string s, .int .i64 k] W fun e w' => e = .returned (.int .i64 i) ∧ W = w') := Lib.hid (by rw [hi]; exact SC.out)
      rw [← hi] at hsk hskg NC hr
      clear SC
      have hsl : sb < wr.heap.size := (Array.getElem?_eq_some_iff.1 HI.out.2.1).1
      have hsl2 : ¬ sb = wr.heap.size := by omega
      have hcr : wr.cell? ⟨sb, 0, none⟩ = some (.string s) := by simp [World.cell?, HI.out.2.1]
      cases r with
      | error f =>
        obtain ⟨c, a⟩ := f
        have HR := Lib.hid hr.symm
        have HIi := Lib.hid hi
        clear hr hi
        gi_upto_region 3 with (fail)
        gi_cut [5] from 14 (fun v5 wx => ∃ b, v5 = .pointer (some ⟨b, 0, none⟩) ∧ Hid (LaidF wr wx b (faultObj c a)))
        case first =>
          gi_region_with (first | (refine ⟨trivial, ?_⟩; gi_at_call 34; refine (callsIn_wide.2 (SC2.out _)).mono ?_; rintro e w3 ⟨rfl, rfl⟩) | (refine ⟨trivial, ?_⟩; gi_at_call 33; refine (callsIn_wide.2 (NC.out _ (by with_reducible (first | exact HLW.out | exact HLW.out.drew | exact HLW.out.alloc _ | exact (HLW.out.alloc _).drew | exact HLW.out.drew.drew | exact (HLW.out.alloc _).drew.drew)))).mono ?_; rintro e w2 hL2; obtain ⟨fb, rfl, hfb, hfo, hB2⟩ := lex_err hL2; clear hL2; have HFB := Lib.hid hfb; have HFO := Lib.hid hfo; clear hfb hfo; have tz2 := (hB2.block wr.heap.size (by simp)).trans (Go.heap_alloc_new wr (.cells zeroCells 44)); have y0 : w2.cell? ⟨wr.heap.size, 0, none⟩ = some (.int .i64 0) := (Lib.cell_of_heap tz2 _).trans rfl; have y1 : w2.cell? ⟨wr.heap.size, 1, none⟩ = some (.string ⟨#[]⟩) := (Lib.cell_of_heap tz2 _).trans rfl; have y2 : w2.cell? ⟨wr.heap.size, 2, none⟩ = some (.int .i64 0) := (Lib.cell_of_heap tz2 _).trans rfl; have y3 : w2.cell? ⟨wr.heap.size, 3, none⟩ = some (.int .i64 0) := (Lib.cell_of_heap tz2 _).trans rfl; have y4 : w2.cell? ⟨wr.heap.size, 4, none⟩ = some (.int .i64 0) := (Lib.cell_of_heap tz2 _).trans rfl; have yf : ∀ j, w2.frozen? ⟨wr.heap.size, j, none⟩ = false := (fun j => by simp [World.frozen?, tz2]); have HZ2 := Lib.hid tz2; clear tz2; have HB2 := Lib.hid hB2; clear hB2) | (refine ⟨trivial, ?_⟩; gi_at_call 33; refine (callsIn_wide.2 (NC.out _ (by with_reducible (first | exact HLW.out | exact HLW.out.drew | exact HLW.out.alloc _ | exact (HLW.out.alloc _).drew | exact HLW.out.drew.drew | exact (HLW.out.alloc _).drew.drew)))).mono ?_; rintro e w2 hL2; obtain ⟨fb, rfl, hfb, hfo, hB2⟩ := lex_err hL2; clear hL2; have HFB := Lib.hid hfb; have HFO := Lib.hid hfo; clear hfb hfo; have HB2 := Lib.hid hB2; clear hB2))
          all_goals gi_wp2
          all_goals gi_meet
          all_goals (first | exact ⟨_, rfl, Lib.hid (laidF_new HB2.out _ HFB.out HFO.out)⟩ | exact ⟨_, rfl, Lib.hid (laidF_old HB2.out _ _ _ _ _ HFB.out HFO.out)⟩)
        case rest =>
          obtain ⟨b, rfl, HLd⟩ := hcut
          have hle := HLd.out.1
          have hbw := HLd.out.2.2
          have hwz := HI.out.2.2.1
          have hJ4 : J (acc.map .tok) wc := HJ.out _ _ _ none HJ2.out ⟨hbw.os, hbw.tape, hbw.output, hbw.size, fun i hi _ => hbw.block i hi⟩ (fun r e => by cases e)
          have hPR : prefixL s.data.toList = (acc, some (c, a)) := by rw [HK.out, scanN_err (f := (c, a)) (by rw [← HIi.out]; exact HR.out)]; simp
          have hRR : ItR s.data.toList w.heap.size (acc.map .tok) (.flt c a b) wc := by
            simp only [ItR, List.length_map, hPR]
            exact ⟨trivial, trivial, by omega, HLd.out.2.1⟩
          have HE : Hid (ItS s.data.toList (acc.map .tok ++ [.flt c a b])) := Lib.hid (by simp only [ItS, hPR]; exact ⟨b, rfl⟩)
          obtain ⟨fn, tmps, assign, body, hy, hRd⟩ := HY.out (acc.map .tok) (.flt c a b) wc hJ4 hRR
          have HRd := Lib.hid hRd
          dsimp only [itV] at hy
          clear hRd hRR hJ4 hbw hPR
          gi_wp2
          refine HRd.out.mono ?_
          rintro e W3 (⟨rfl, hJ3, hk3⟩ | ⟨rfl, hJx3⟩)
          · have HJ3 := Lib.hid hJ3
            clear hk3 hJ3
            gi_wp2
            refine bodyPost_ret (results_none rfl _ _ _) rfl ?_
            exact ⟨⟨_, rfl⟩, .inl ⟨_, HE.out, HJ3.out⟩⟩
          · gi_wp2
            refine bodyPost_ret (results_none rfl _ _ _) rfl ?_
            exact ⟨⟨_, rfl⟩, .inr ⟨_, trivial, hJx3⟩⟩
      | ok t =>
        have HR := Lib.hid hr.symm
        have HIi := Lib.hid hi
        clear hr hi
        gi_upto_region 3 with (fail)
        gi_cut [4, 5] from 14 (fun v4 v5 wx => ∃ b, v4 = .pointer (some ⟨b, 0, none⟩) ∧ v5 = .pointer none ∧ Hid (Laid wr wx b (tokCells t)))
        case first =>
          gi_region_with (first | (refine ⟨trivial, ?_⟩; gi_at_call 34; refine (callsIn_wide.2 (SC2.out _)).mono ?_; rintro e w3 ⟨rfl, rfl⟩) | (refine ⟨trivial, ?_⟩; gi_at_call 33; refine (callsIn_wide.2 (NC.out _ (by with_reducible (first | exact HLW.out | exact HLW.out.drew | exact HLW.out.alloc _ | exact (HLW.out.alloc _).drew | exact HLW.out.drew.drew | exact (HLW.out.alloc _).drew.drew)))).mono ?_; rintro e w2 hL2; obtain ⟨rfl, hB2⟩ := lex_ok hL2; clear hL2; have tz2 := (hB2.block wr.heap.size (by simp)).trans (Go.heap_alloc_new wr (.cells zeroCells 44)); have y0 : w2.cell? ⟨wr.heap.size, 0, none⟩ = some (.int .i64 0) := (Lib.cell_of_heap tz2 _).trans rfl; have y1 : w2.cell? ⟨wr.heap.size, 1, none⟩ = some (.string ⟨#[]⟩) := (Lib.cell_of_heap tz2 _).trans rfl; have y2 : w2.cell? ⟨wr.heap.size, 2, none⟩ = some (.int .i64 0) := (Lib.cell_of_heap tz2 _).trans rfl; have y3 : w2.cell? ⟨wr.heap.size, 3, none⟩ = some (.int .i64 0) := (Lib.cell_of_heap tz2 _).trans rfl; have y4 : w2.cell? ⟨wr.heap.size, 4, none⟩ = some (.int .i64 0) := (Lib.cell_of_heap tz2 _).trans rfl; have yf : ∀ j, w2.frozen? ⟨wr.heap.size, j, none⟩ = false := (fun j => by simp [World.frozen?, tz2]); have HZ2 := Lib.hid tz2; clear tz2; have HB2 := Lib.hid hB2; clear hB2) | (refine ⟨trivial, ?_⟩; gi_at_call 33; refine (callsIn_wide.2 (NC.out _ (by with_reducible (first | exact HLW.out | exact HLW.out.drew | exact HLW.out.alloc _ | exact (HLW.out.alloc _).drew | exact HLW.out.drew.drew | exact (HLW.out.alloc _).drew.drew)))).mono ?_; rintro e w2 hL2; obtain ⟨rfl, hB2⟩ := lex_ok hL2; clear hL2; have HB2 := Lib.hid hB2; clear hB2))
          all_goals gi_wp2
          all_goals gi_meet
          all_goals (first | exact ⟨_, rfl, rfl, Lib.hid (laid_new HB2.out _)⟩ | exact ⟨_, rfl, rfl, Lib.hid (laid_old HB2.out _ _ _ _ _ _ _ _ _ _ HZ2.out)⟩)
        case rest =>
          obtain ⟨b, rfl, rfl, HLd⟩ := hcut
          have hle := HLd.out.1
          have hbw := HLd.out.2.2
          have hzc := hbw.size
          have tz := HLd.out.2.1
          have hJ4 : J (acc.map .tok) wc := HJ.out _ _ _ none HJ2.out ⟨hbw.os, hbw.tape, hbw.output, hbw.size, fun i hi _ => hbw.block i hi⟩ (fun r e => by cases e)
          have hRR : ItR s.data.toList w.heap.size (acc.map .tok) (.tok t) wc := by
            simp only [ItR, List.length_map]
            rw [HK.out]
            by_cases hk0 : t.kind = 0
            · rw [scanN_end (by rw [← HIi.out]; exact HR.out) hk0]; simp
            · rw [scanN_ok (by rw [← HIi.out]; exact HR.out) hk0]; simp
          have hwz := HI.out.2.2.1
          obtain ⟨fn, tmps, assign, body, hy, hRd⟩ := HY.out (acc.map .tok) (.tok t) wc hJ4 hRR
          have HRd := Lib.hid hRd
          dsimp only [itV, tokV, tokCells] at hy
          have y0 : wc.cell? ⟨b, 0, none⟩ = some (.int .i64 t.kind) := (Lib.cell_of_heap tz _).trans rfl
          have y1 : wc.cell? ⟨b, 1, none⟩ = some (.string ⟨t.text.toArray⟩) := (Lib.cell_of_heap tz _).trans rfl
          have y2 : wc.cell? ⟨b, 2, none⟩ = some (.int .i64 t.num) := (Lib.cell_of_heap tz _).trans rfl
          have y3 : wc.cell? ⟨b, 3, none⟩ = some (.int .i64 t.at_) := (Lib.cell_of_heap tz _).trans rfl
          have y4 : wc.cell? ⟨b, 4, none⟩ = some (.int .i64 t.end_) := (Lib.cell_of_heap tz _).trans rfl
          have HZ := Lib.hid tz
          have HBW := Lib.hid hbw
          clear hRd hRR hJ4 tz hbw
          have HG : Hid (∀ W3, Spares B0 Bs ro wc W3 → W3.heap[b]? = some (.cells (tokCells t) 44 (0, 0)) ∧ LW W3 ∧ W3.heap[sb]? = some (.cells #[.string s] 9 (0, 0)) ∧ w.heap.size ≤ W3.heap.size ∧ (∀ g, roOf ro W3 = some g → g < W3.heap.size ∧ g ≠ sb)) := Lib.hid (fun W3 hk3 => by
            have hI2 := HI.out
            have hro2 : roOf ro wc = roOf ro wr := roOf_block (fun B e => HBW.out.block B (by have := (HRO.out B e).1; omega))
            have hsb3 := (HBW.out.block sb hsl).trans hI2.2.1
            refine ⟨hk3.keeps b _ _ _ (fun hm => by have := HBS.out b hm; omega) (fun e => by rw [hro2] at e; have := (hI2.2.2.2 b e).1; omega) HZ.out,
              (hI2.1.below HBW.out).kept hk3.below hB0, hk3.keeps sb _ _ _ hsb2 (fun e => by rw [hro2] at e; exact (hI2.2.2.2 sb e).2 rfl) hsb3, Nat.le_trans hwz (Nat.le_trans hzc hk3.size), fun g e => ?_⟩
            rcases hk3.row with h1 | ⟨g', h1, h2, h3⟩
            · rw [h1, hro2] at e
              have h5 := hI2.2.2.2 g e
              have h6 := hk3.size
              exact ⟨by omega, h5.2⟩
            · rw [h1] at e; injection e with e; subst e
              exact ⟨h3, by omega⟩)
          by_cases hk0 : t.kind = 0
          · have e0 : ((t.kind : Int) == 0) = true := by simpa using hk0
            have HE : Hid (ItS s.data.toList (acc.map .tok ++ [.tok t])) := Lib.hid (by
              simp only [ItS]; rw [HK.out, scanN_end (by rw [← HIi.out]; exact HR.out) hk0]; simp)
            clear hk0
            gi_wp2
            refine HRd.out.mono ?_
            rintro e W3 (⟨rfl, hJ3, hk3⟩ | ⟨rfl, hJx3⟩)
            · have tz3 := (HG.out W3 hk3).1
              have x0 : W3.cell? ⟨b, 0, none⟩ = some (.int .i64 t.kind) := (Lib.cell_of_heap tz3 _).trans rfl
              have HJ3 := Lib.hid hJ3
              clear hk3 tz3 hJ3
              gi_wp2
              refine bodyPost_ret (results_none rfl _ _ _) rfl ?_
              exact ⟨⟨_, rfl⟩, .inl ⟨_, HE.out, HJ3.out⟩⟩
            · gi_wp2
              refine bodyPost_ret (results_none rfl _ _ _) rfl ?_
              exact ⟨⟨_, rfl⟩, .inr ⟨_, trivial, hJx3⟩⟩
          · have e0 : ((t.kind : Int) == 0) = false := by simpa using hk0
            have hb := tok_cases (i := i) (by rw [size_len]; exact hsk) HR.out hk0
            have HE : Hid (prefixL s.data.toList = (acc ++ [t] ++ (scanN s.data.toList m t.end_).1, (scanN s.data.toList m t.end_).2)) := Lib.hid (by rw [HK.out, scanN_ok (by rw [← HIi.out]; exact HR.out) hk0]; simp)
            have hb2 := hb.2.1
            have hb3 := hb.2.2
            rw [size_len] at hb3
            clear hk0 hb
            gi_wp2
            refine HRd.out.mono ?_
            rintro e W3 (⟨rfl, hJ3, hk3⟩ | ⟨rfl, hJx3⟩)
            · have HG3 := Lib.hid (HG.out W3 hk3)
              have tz3 := HG3.out.1
              have x0 : W3.cell? ⟨b, 0, none⟩ = some (.int .i64 t.kind) := (Lib.cell_of_heap tz3 _).trans rfl
              have x4 : W3.cell? ⟨b, 4, none⟩ = some (.int .i64 t.end_) := (Lib.cell_of_heap tz3 _).trans rfl
              have HJ3 : Hid (J ((acc ++ [t]).map .tok) W3) := Lib.hid (by rw [List.map_append]; exact hJ3)
              clear hk3 tz3 hJ3
              gi_wp2
              go_roundw
              case rel => exact ⟨t.end_, m, acc ++ [t], hb3, rfl, Lib.hid (by have := HM.out; omega), HE, HJ3, Lib.hid HG3.out.2⟩
              case measure => simp [intOf]; omega
            · gi_wp2
              refine bodyPost_ret (results_none rfl _ _ _) rfl ?_
              exact ⟨⟨_, rfl⟩, .inr ⟨_, trivial, hJx3⟩⟩

end Go.Proofs.YthcdmnndhjbbfaaDoor.X
