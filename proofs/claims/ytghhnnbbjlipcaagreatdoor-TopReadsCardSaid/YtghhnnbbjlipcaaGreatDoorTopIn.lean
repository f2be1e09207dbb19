/-
  A tree that parse has made, as the show seat reads it; the walk of sameParts.
  The walks of reads and TopShows.
-/
import Derived.Test.YtghhnnbbjlipcaaGreatDoorTextAll
import Derived.Test.YtghhnnbbjlipcaaGreatDoorBrAll
import Derived.Test.YtghhnnbbjlipcaaGreatDoorParFo
import Derived.Test.YtghhnnbbjlipcaaGreatDoorParWake
import Derived.OwnWalk
set_option linter.unusedVariables false
set_option linter.unusedSimpArgs false
namespace Go.Proofs.YtghhnnbbjlipcaaGreatDoor.X
open Go.RowKit Go.Proofs.YtghhnnbbjlipcaaGreatDoorW.PrintWords Go.Proofs.YtghhnnbbjlipcaaGreatDoorW.PrintLast
def ofPD (p : PD) : P.Pt := ⟨p.kind, ⟨p.text.toArray⟩, p.num, p.kids.map fun i : Nat => (i : Int)⟩
theorem to_of (p : PD) : toPD (ofPD p) = p := by
  obtain ⟨k, t, n, ks⟩ := p
  simp only [ofPD, toPD]
  congr 1
  rw [List.map_map]
  exact (List.map_congr_left (fun x _ => Int.toNat_natCast x)).trans (List.map_id' _)
theorem int_row {w W' : World} (hW : ∀ k, True → k < w.heap.size → W'.heap[k]? = w.heap[k]?) {a : Option Addr} {n c : Nat} {xs : List Int} (hn : n = xs.length) (hl : xs.length ≤ 140737488355328) (h : IntsAt w (.slice a n c) xs) : (Kd.int .i64).C W' a n xs := by
  subst hn
  rcases h with ⟨rfl, _⟩ | ⟨g, o, cap, h1, h2, h3⟩
  · exact ⟨rfl, by simp, fun h => absurd h (Nat.lt_irrefl 0)⟩
  · injection h1 with h1 _ _
    subst h1
    refine (H.ints_F (W := w) (a := ⟨g, o, none⟩) (zs := xs) rfl (by omega) (fun i hi => ?_)) W' hW
    have e : (⟨g, o, none⟩ : Addr).add i = ⟨g, o + i, none⟩ := by unfold Addr.add; split <;> simp_all
    rw [e, h3 i hi, List.getD_eq_getElem?_getD, List.getElem?_eq_getElem hi]; rfl
/-- A tree that parse has made. -/
theorem tree_F {w : World} {base : Nat} {vp vo : Value} {kv : List Value} {ps : List PD} {offs : List Nat} (h : TreeAt w base vp vo kv ps offs) (hl : ps.length ≤ 140737488355328) (hk : ∀ p ∈ ps, p.kids.length ≤ 140737488355328) : ∃ A, vp = .slice A ps.length ps.length ∧ Kd.F P.k45 w (fun _ => True) A ps.length (ps.map ofPD) := by
  obtain ⟨av, hv⟩ := h.parts.shp
  refine ⟨av, hv, fun W' hW => ⟨List.length_map _, by omega, fun hpos => ?_⟩⟩
  obtain ⟨g0, _, _, e0, _⟩ := h.part (k := 0) hpos
  rw [hv] at e0
  injection e0 with e0
  refine ⟨⟨g0, 0, none⟩, e0, fun j p hp => ?_⟩
  rw [List.getElem?_map] at hp
  have hj : j < ps.length := by
    rcases Nat.lt_or_ge j ps.length with h1 | h1
    · exact h1
    · rw [List.getElem?_eq_none h1] at hp; cases hp
  rw [List.getElem?_eq_getElem hj] at hp
  obtain rfl := Option.some.inj hp
  obtain ⟨g, a, c, e1, hg, hkv, d0, d1, d2, d3, hIn⟩ := h.part hj
  rw [hv] at e1
  injection e1 with e1
  have eg : g0 = g := by rw [e0] at e1; injection e1 with e1; injection e1
  subst eg
  have hkr := h.kids j hj
  rw [hkv] at hkr
  have hc : ps[j].kids.length ≤ c := by
    rcases hkr.2 with ⟨e, h0⟩ | ⟨g', cap, cur, e, _, _, h2, _⟩
    · omega
    · injection e with _ _ e; omega
  have hkl := hk _ (List.getElem_mem hj)
  have hrow := int_row hW (by simp) (by simp; exact hkl) hIn
  have hl3 : (ofPD ps[j]).f3.length = ps[j].kids.length := by simp [ofPD]
  refine ⟨_, rfl, P.k45_mk W' (ofPD ps[j]) (A3 := a) (c3 := c) (by rw [hl3]; exact hc) (by rw [hl3]; exact hrow), fun i u hu => ?_⟩
  have ea : ∀ i, (⟨g0, 0, none⟩ : Addr).add (j * 4 + i) = ⟨g0, j * 4 + i, none⟩ := fun i => by unfold Addr.add; split <;> simp_all
  show W'.cell? ((⟨g0, 0, none⟩ : Addr).add (j * 4 + i)) = some u
  rw [ea]
  match i, hu with
  | 0, hu => obtain rfl := Option.some.inj hu; exact H.cell_agree hW d0
  | 1, hu => obtain rfl := Option.some.inj hu; exact H.cell_agree hW d1
  | 2, hu => obtain rfl := Option.some.inj hu; exact H.cell_agree hW d2
  | 3, hu => obtain rfl := Option.some.inj hu; rw [hl3]; exact H.cell_agree hW d3
theorem int_at {w : World} {A : Option Addr} {n : Nat} {xs : List Int} (h : (Kd.int .i64).C w A n xs) {j : Nat} (hj : j < xs.length) : ∃ ad, A = some ad ∧ w.cell? (ad.add j) = some (.int .i64 xs[j]) := by
  have hn : xs.length = n := Kd.C_len h
  obtain ⟨ad, c, e, _, hK, hc0⟩ := Kd.C_get h (0 : Int) (j : Int) (by omega) (by omega)
  have hc : ∀ i u, c[i]? = some u → w.cell? (ad.add ((j : Int).toNat * 1 + i)) = some u := hc0
  have hK' : c = [.int .i64 (xs.getD (j : Int).toNat 0)] := hK
  subst hK'
  have := hc 0 _ rfl
  rw [Int.toNat_natCast, Nat.mul_one, Nat.add_zero, List.getD_eq_getElem?_getD, List.getElem?_eq_getElem hj] at this
  exact ⟨ad, e, this⟩
set_option maxHeartbeats 8000000 in
set_option maxRecDepth 100000 in
theorem sameK_any {l : List P.Pt} (hl : l.length ≤ 140737488355328) {A B : Option Addr} {cA cB : Nat} {w : World} (hA : Kd.C P.k45 w A l.length l) (hB : Kd.C P.k45 w B l.length l) (hk : ∀ p ∈ l, p.f3.length ≤ 140737488355328) :
    Calls Tryz.prog 20 #[.agg #[.slice A l.length cA], .agg #[.slice B l.length cB]] w fun e w' => e = .returned (.bool true) ∧ Below w.heap.size w w' := by
  have TR := Lib.hid hA
  have TR2 := Lib.hid hB
  have HK := Lib.hid hk
  clear hA hB hk
  go_enter Tryz.func20, Tryz.ntmps20
  go_wp2
  go_loopw [5] (fun v wr => ∃ k : Nat, k ≤ l.length ∧ v = .int .i64 k ∧ Hid (Below (w.heap.size + 2) ((w.alloc (.cells #[.slice A l.length cA] 25)).alloc (.cells #[.slice B l.length cB] 25)) wr)) (fun v _ => l.length - (intOf v).toNat)
  case atStart => exact ⟨0, by omega, rfl, Lib.hid (Below.refl _ _)⟩
  case round =>
    obtain ⟨k, hk, rfl, HB⟩ := hrel
    have hwr : w.heap.size + 1 < wr.heap.size := by have := HB.out.size; simp at this; omega
    have ct : wr.cell? ⟨w.heap.size, 0, none⟩ = some (.slice A l.length cA) := cell_keep HB.out (by omega) ((Lib.cell_of_heap ((Below.heap_alloc _ _ _ (by simp)).trans (Go.heap_alloc_new w _)) 0).trans rfl)
    have ct2 : wr.cell? ⟨w.heap.size + 1, 0, none⟩ = some (.slice B l.length cB) := cell_keep HB.out (by omega) ((Lib.cell_of_heap (by have h := Go.heap_alloc_new (w.alloc (.cells #[.slice A l.length cA] 25)) (.cells #[.slice B l.length cB] 25); rw [World.size_alloc] at h; exact h) 0).trans rfl)
    have hBw : Below w.heap.size w wr := (((Below.refl _ w).alloc (Nat.le_refl _) _).alloc (by simp) _).trans (HB.out.mono (by omega))
    have hw0 : w.heap.size < wr.heap.size := by omega
    by_cases hlt : k < l.length
    · have hI : (k : Int) < (l.length : Int) := by omega
      obtain ⟨g, a, c, hg1, d0, d1, d2, d3, hl3, hIn⟩ := P.at_T45 (Kd.C_below TR.out hBw) (k : Int) (by omega) (by omega)
      obtain ⟨g2, a2, c2, hg3, e0, e1, e2, e3, hl4, hIn2⟩ := P.at_T45 (Kd.C_below TR2.out hBw) (k : Int) (by omega) (by omega)
      subst hg1 hg3
      have hrd : P.rd_T45 l (k : Int) = l[k] := by simp [P.rd_T45, List.getD_eq_getElem?_getD, List.getElem?_eq_getElem hlt]
      rw [hrd] at d0 d1 d2 d3 hl3 hIn e0 e1 e2 e3 hl4 hIn2
      rw [Int.toNat_natCast] at d0 d1 d2 d3 e0 e1 e2 e3
      have hkl := HK.out _ (List.getElem_mem hlt)
      have KI := Lib.hid hIn
      have KI2 := Lib.hid hIn2
      have HBw := Lib.hid hBw
      clear hIn hIn2 hBw hrd hl3 hl4
      have hbg : (g.add (k * 4)).block < wr.heap.size := World.block_lt_of_cell? _ _ d0
      have hbg2 : (g2.add (k * 4)).block < wr.heap.size := World.block_lt_of_cell? _ _ e0
      generalize l[k] = p at d0 d1 d2 d3 e0 e1 e2 e3 KI KI2 hkl
      obtain ⟨m, hm⟩ : ∃ m, m = p.f3.length := ⟨_, rfl⟩
      have HM := Lib.hid hm
      rw [← hm] at d3 e3 KI KI2 hkl
      clear hm
      go_wp2
      go_loopw [8] (fun v wq => ∃ j : Nat, j ≤ m ∧ v = .int .i64 j ∧ ∃ nd, ((wr.alloc (.cells #[.int .i64 p.f0, .string p.f1, .int .i64 p.f2, .slice a m c] 45)).alloc (.cells #[.int .i64 p.f0, .string p.f1, .int .i64 p.f2, .slice a2 m c2] 45)).drewN nd = wq) (fun v _ => m - (intOf v).toNat)
      case atStart => exact ⟨0, by omega, rfl, 0, World.drewN_zero _⟩
      case round =>
        obtain ⟨j, hj, rfl, nd, rfl⟩ := hrel
        by_cases hlj : j < m
        · have hI2 : (j : Int) < (m : Int) := by omega
          obtain ⟨gk, hk1, hk3⟩ := int_at KI.out (j := j) (by have := HM.out; omega)
          obtain ⟨gk2, hk4, hk6⟩ := int_at KI2.out (j := j) (by have := HM.out; omega)
          subst hk1 hk4
          have hbk : (gk.add j).block < wr.heap.size := World.block_lt_of_cell? _ _ hk3
          have hbk2 : (gk2.add j).block < wr.heap.size := World.block_lt_of_cell? _ _ hk6
          generalize p.f3[j]'(by have := HM.out; omega) = x at hk3 hk6
          go_wp2
          go_quiet (fail)
          go_wp2
          go_roundw
          case rel => exact ⟨j + 1, by omega, by go_num, _, rfl⟩
          case measure => simp [intOf]; omega
        · have hI2 : ¬ (j : Int) < (m : Int) := by omega
          go_wp2
          go_roundw
          case rel => exact ⟨k + 1, by omega, by go_num, Lib.hid (below_drewN ((HB.out.alloc (by omega) _).alloc (by simp; omega) _) _)⟩
          case measure => simp [intOf]; omega
    · have hI : ¬ (k : Int) < (l.length : Int) := by omega
      go_wp2
      go_ret
      exact ⟨rfl, hBw⟩

end Go.Proofs.YtghhnnbbjlipcaaGreatDoor.X
set_option linter.unusedVariables false
set_option linter.unusedSimpArgs false
namespace Go.Proofs.YtghhnnbbjlipcaaGreatDoor.X
open Go.RowKit Go.Proofs.YtghhnnbbjlipcaaGreatDoorW.PrintWords Go.Proofs.YtghhnnbbjlipcaaGreatDoorW.PrintLast
theorem F_below {w w' : World} {A : Option Addr} {n : Nat} {l : List P.Pt} (h : Kd.F P.k45 w (fun _ => True) A n l) (k : Below w.heap.size w w') : Kd.F P.k45 w' (fun _ => True) A n l :=
  Kd.F_mono (Kd.F_step (Kd.F_bound h) (fun j hj hl => k.block j hl)) (fun _ _ => trivial)
theorem tab_big {w : World} (h : LW w) : 0 < w.heap.size := World.block_lt_of_cell? _ _ (h.tab.cell gTab 0 (by decide))
theorem two_of {l : List Value} (h : l.length = 2) : ∃ a b, l = [a, b] := by
  match l, h with
  | [a, b], _ => exact ⟨a, b, rfl⟩
theorem readsP : parseL (⟨#[33, 116, 114, 117, 101]⟩ : ByteArray).data.toList = .ok ([⟨1, [], 0, []⟩, ⟨3, [], 0, [0]⟩], [1, 0]) := by kernel_rfl
set_option maxRecDepth 100000 in
theorem fault_code (c a : Int) (W : World) : (Go.Instr.field 35 (.agg (H.fcells c a ⟨#[]⟩)) 0).run Tryz.prog W = .ok (.int .i64 c) W := by
  kernel_rfl
set_option maxHeartbeats 8000000 in
set_option maxRecDepth 100000 in
theorem reads_any (w : World) (hL : LW w) : Calls Tryz.prog 17 #[] w fun e w' => e = .returned (.bool true) ∧ Below w.heap.size w w' := by
  have P1 : Hid (Calls Tryz.prog 10 #[.string ⟨#[33, 116, 114, 117, 101]⟩] w (ParseAns w (.ok ([⟨1, [], 0, []⟩, ⟨3, [], 0, [0]⟩], [1, 0])))) :=
    Lib.hid (by have h := parse_c ⟨#[33, 116, 114, 117, 101]⟩ w (by decide) hL; rw [readsP] at h; exact h)
  have LH := Lib.hid hL
  clear hL
  go_enter Tryz.func17, Tryz.ntmps17
  go_wp2_with (first
    | (go_at_call 19; refine (H.show_text (some ⟨g, 0, none⟩) 2 H.awk _ (F_below FR.out ((Below.refl _ w2).alloc (Nat.le_refl _) _)) (Nat.le_refl _) ((LH.out.below (HB2.out.alloc HB2.out.size _)).tab) (tab_big (LH.out.below (HB2.out.alloc HB2.out.size _)))).mono ?_; rw [H.awk_text]; rintro e w3 ⟨v, rfl, hE, hB3⟩; obtain rfl := hE; have HB3 := Lib.hid ((HB2.out.alloc HB2.out.size _).trans (hB3.mono (by have := HB2.out.size; simp; omega))); clear hB3)
    | (go_at_call 10; refine P1.out.mono ?_; rintro e w2 ⟨hB2, vp, vo, kv, rfl, hT⟩; obtain ⟨A, hvp, hF⟩ := tree_F hT (by decide) (by decide); obtain ⟨g, hvp2, hg, hgl, hc⟩ := hT.parts.form (by decide); obtain ⟨go, hvo, hg2, hgl2, hc2⟩ := hT.offs.form (by decide); subst hvp2 hvo; obtain ⟨k0, k1, rfl⟩ := two_of hT.klen; injection hvp with hvp _ _; subst hvp; have d0 : w2.cell? ⟨g, 0, none⟩ = some (.int .i64 1) := hc 0 (by decide); have d4 : w2.cell? ⟨g, 4, none⟩ = some (.int .i64 3) := hc 4 (by decide); have FR := Lib.hid hF; have HB2 := Lib.hid hB2; clear hB2 hT hc hc2 hF hg hg2))
  go_ret
  exact ⟨rfl, HB3.out⟩
/-- What a law about a tree finds. -/
structure TopIn (w : World) (A : Option Addr) (c : Nat) (l0 : List P.Pt) : Prop where
  tree : Kd.F P.k45 w (fun _ => True) A l0.length l0
  cap : l0.length ≤ c
  lw : LW w
theorem TopIn.below {w w' : World} {A : Option Addr} {c : Nat} {l0 : List P.Pt} (h : TopIn w A c l0) (k : Below w.heap.size w w') : TopIn w' A c l0 :=
  ⟨F_below h.tree k, h.cap, h.lw.below k⟩
theorem TopIn.reads {w : World} {A : Option Addr} {c : Nat} {l0 : List P.Pt} (h : TopIn w A c l0) : Kd.C P.k45 w A l0.length l0 := Kd.F_now h.tree

end Go.Proofs.YtghhnnbbjlipcaaGreatDoor.X
