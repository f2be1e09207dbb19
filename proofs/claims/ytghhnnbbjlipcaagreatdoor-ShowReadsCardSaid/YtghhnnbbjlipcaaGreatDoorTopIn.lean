/-
  A tree that parse has made, as the show seat reads it; the walk of sameParts.
  The walks of reads and TopShows.
-/
import Derived.Test.YtghhnnbbjlipcaaGreatDoorTextAll
import Derived.Test.YtghhnnbbjlipcaaGreatDoorBrAll
import Derived.Test.YtghhnnbbjlipcaaGreatDoorParFo
import Derived.Test.YtghhnnbbjlipcaaGreatDoorParWake
import Derived.OwnWalk
set_option linter.unusedVariables false
set_option linter.unusedSimpArgs false
namespace Go.Proofs.YtghhnnbbjlipcaaGreatDoor.X
open Go.RowKit Go.Proofs.YtghhnnbbjlipcaaGreatDoorW.PrintWords Go.Proofs.YtghhnnbbjlipcaaGreatDoorW.PrintLast
def ofPD (p : PD) : P.Pt := ⟨p.kind, ⟨p.text.toArray⟩, p.num, p.kids.map fun i : Nat => (i : Int)⟩
theorem to_of (p : PD) : toPD (ofPD p) = p := by
  obtain ⟨k, t, n, ks⟩ := p
  simp only [ofPD, toPD]
  congr 1
  rw [List.map_map]
  exact (List.map_congr_left (fun x _ => Int.toNat_natCast x)).trans (List.map_id' _)
theorem of_to {p : P.Pt} (h : ∀ k ∈ p.f3, 0 ≤ k) : ofPD (toPD p) = p := by
  obtain ⟨k, t, n, ks⟩ := p
  simp only at h
  have e : (ks.map Int.toNat).map (fun i : Nat => (i : Int)) = ks := by
    rw [List.map_map]
    refine (List.map_congr_left (fun x hx => ?_)).trans (List.map_id' _)
    have := h x hx
    simp; omega
  simp only [ofPD, toPD]
  rw [e]
theorem ofs_to {l0 : List P.Pt} (h : ∀ p ∈ l0, ∀ k ∈ p.f3, 0 ≤ k) : (toPDs l0).map ofPD = l0 := by
  rw [toPDs, List.map_map]
  exact (List.map_congr_left (fun p hp => of_to (h p hp))).trans (List.map_id' _)
theorem int_row {w W' : World} (hW : ∀ k, True → k < w.heap.size → W'.heap[k]? = w.heap[k]?) {a : Option Addr} {n c : Nat} {xs : List Int} (hn : n = xs.length) (hl : xs.length ≤ 140737488355328) (h : IntsAt w (.slice a n c) xs) : (Kd.int .i64).C W' a n xs := by
  subst hn
  rcases h with ⟨rfl, _⟩ | ⟨g, o, cap, h1, h2, h3⟩
  · exact ⟨rfl, by simp, fun h => absurd h (Nat.lt_irrefl 0)⟩
  · injection h1 with h1 _ _
    subst h1
    refine (H.ints_F (W := w) (a := ⟨g, o, none⟩) (zs := xs) rfl (by omega) (fun i hi => ?_)) W' hW
    have e : (⟨g, o, none⟩ : Addr).add i = ⟨g, o + i, none⟩ := by unfold Addr.add; split <;> simp_all
    rw [e, h3 i hi, List.getD_eq_getElem?_getD, List.getElem?_eq_getElem hi]; rfl
/-- A tree that parse has made. -/
theorem tree_F {w : World} {base : Nat} {vp vo : Value} {kv : List Value} {ps : List PD} {offs : List Nat} (h : TreeAt w base vp vo kv ps offs) (hl : ps.length ≤ 140737488355328) (hk : ∀ p ∈ ps, p.kids.length ≤ 140737488355328) : ∃ A, vp = .slice A ps.length ps.length ∧ Kd.F P.k45 w (fun _ => True) A ps.length (ps.map ofPD) := by
  obtain ⟨av, hv⟩ := h.parts.shp
  refine ⟨av, hv, fun W' hW => ⟨List.length_map _, by omega, fun hpos => ?_⟩⟩
  obtain ⟨g0, _, _, e0, _⟩ := h.part (k := 0) hpos
  rw [hv] at e0
  injection e0 with e0
  refine ⟨⟨g0, 0, none⟩, e0, fun j p hp => ?_⟩
  rw [List.getElem?_map] at hp
  have hj : j < ps.length := by
    rcases Nat.lt_or_ge j ps.length with h1 | h1
    · exact h1
    · rw [List.getElem?_eq_none h1] at hp; cases hp
  rw [List.getElem?_eq_getElem hj] at hp
  obtain rfl := Option.some.inj hp
  obtain ⟨g, a, c, e1, hg, hkv, d0, d1, d2, d3, hIn⟩ := h.part hj
  rw [hv] at e1
  injection e1 with e1
  have eg : g0 = g := by rw [e0] at e1; injection e1 with e1; injection e1
  subst eg
  have hkr := h.kids j hj
  rw [hkv] at hkr
  have hc : ps[j].kids.length ≤ c := by
    rcases hkr.2 with ⟨e, h0⟩ | ⟨g', cap, cur, e, _, _, h2, _⟩
    · omega
    · injection e with _ _ e; omega
  have hkl := hk _ (List.getElem_mem hj)
  have hrow := int_row hW (by simp) (by simp; exact hkl) hIn
  have hl3 : (ofPD ps[j]).f3.length = ps[j].kids.length := by simp [ofPD]
  refine ⟨_, rfl, P.k45_mk W' (ofPD ps[j]) (A3 := a) (c3 := c) (by rw [hl3]; exact hc) (by rw [hl3]; exact hrow), fun i u hu => ?_⟩
  have ea : ∀ i, (⟨g0, 0, none⟩ : Addr).add (j * 4 + i) = ⟨g0, j * 4 + i, none⟩ := fun i => by unfold Addr.add; split <;> simp_all
  show W'.cell? ((⟨g0, 0, none⟩ : Addr).add (j * 4 + i)) = some u
  rw [ea]
  match i, hu with
  | 0, hu => obtain rfl := Option.some.inj hu; exact H.cell_agree hW d0
  | 1, hu => obtain rfl := Option.some.inj hu; exact H.cell_agree hW d1
  | 2, hu => obtain rfl := Option.some.inj hu; exact H.cell_agree hW d2
  | 3, hu => obtain rfl := Option.some.inj hu; rw [hl3]; exact H.cell_agree hW d3
theorem int_at {w : World} {A : Option Addr} {n : Nat} {xs : List Int} (h : (Kd.int .i64).C w A n xs) {j : Nat} (hj : j < xs.length) : ∃ ad, A = some ad ∧ w.cell? (ad.add j) = some (.int .i64 xs[j]) := by
  have hn : xs.length = n := Kd.C_len h
  obtain ⟨ad, c, e, _, hK, hc0⟩ := Kd.C_get h (0 : Int) (j : Int) (by omega) (by omega)
  have hc : ∀ i u, c[i]? = some u → w.cell? (ad.add ((j : Int).toNat * 1 + i)) = some u := hc0
  have hK' : c = [.int .i64 (xs.getD (j : Int).toNat 0)] := hK
  subst hK'
  have := hc 0 _ rfl
  rw [Int.toNat_natCast, Nat.mul_one, Nat.add_zero, List.getD_eq_getElem?_getD, List.getElem?_eq_getElem hj] at this
  exact ⟨ad, e, this⟩

end Go.Proofs.YtghhnnbbjlipcaaGreatDoor.X
set_option linter.unusedVariables false
set_option linter.unusedSimpArgs false
namespace Go.Proofs.YtghhnnbbjlipcaaGreatDoor.X
open Go.RowKit Go.Proofs.YtghhnnbbjlipcaaGreatDoorW.PrintWords Go.Proofs.YtghhnnbbjlipcaaGreatDoorW.PrintLast
theorem F_below {w w' : World} {A : Option Addr} {n : Nat} {l : List P.Pt} (h : Kd.F P.k45 w (fun _ => True) A n l) (k : Below w.heap.size w w') : Kd.F P.k45 w' (fun _ => True) A n l :=
  Kd.F_mono (Kd.F_step (Kd.F_bound h) (fun j hj hl => k.block j hl)) (fun _ _ => trivial)
theorem tab_big {w : World} (h : LW w) : 0 < w.heap.size := World.block_lt_of_cell? _ _ (h.tab.cell gTab 0 (by decide))
theorem text_pos {l0 : List P.Pt} {c a : Int} (h : (H.textSpec l0).2 = some (c, a)) : 0 < c := by
  unfold H.textSpec at h
  split at h
  · rename_i f hv
    injection h with h
    subst h
    unfold P.validSpec at hv
    cases hf : P.formSpec l0 with
    | some f =>
      rw [hf] at hv
      obtain ⟨c', a'⟩ := f
      have := P.formSpec_code hf
      injection hv with hv; injection hv with h1 h2
      omega
    | none =>
      rw [hf] at hv
      have := P.deepGo_code _ _ _ _ hv
      omega
  · split at h
    · injection h with h; injection h with h1 h2; omega
    · cases h
theorem text_cases (l0 : List P.Pt) : (∃ c a, H.textSpec l0 = ([], some (c, a)) ∧ 0 < c) ∨ (P.validSpec l0 = none ∧ ∃ t, P.txt l0 ((l0.length - 1 : Nat) : Int) = t ∧ t.length ≤ 4096 ∧ H.textSpec l0 = (t, none)) := by
  cases hv : P.validSpec l0 with
  | some f =>
    obtain ⟨c, a⟩ := f
    have h : H.textSpec l0 = ([], some (c, a)) := by simp [H.textSpec, hv]
    exact .inl ⟨c, a, h, text_pos (a := a) (by rw [h])⟩
  | none =>
    by_cases hl : 4096 < (P.txt l0 ((l0.length - 1 : Nat) : Int)).length
    · exact .inl ⟨131, -1, by simp [H.textSpec, hv, hl], by decide⟩
    · exact .inr ⟨rfl, _, rfl, by omega, by simp [H.textSpec, hv, hl]⟩
/-- What a law about a tree finds. -/
structure TopIn (w : World) (A : Option Addr) (c : Nat) (l0 : List P.Pt) : Prop where
  tree : Kd.F P.k45 w (fun _ => True) A l0.length l0
  cap : l0.length ≤ c
  lw : LW w
theorem TopIn.below {w w' : World} {A : Option Addr} {c : Nat} {l0 : List P.Pt} (h : TopIn w A c l0) (k : Below w.heap.size w w') : TopIn w' A c l0 :=
  ⟨F_below h.tree k, h.cap, h.lw.below k⟩
theorem TopIn.reads {w : World} {A : Option Addr} {c : Nat} {l0 : List P.Pt} (h : TopIn w A c l0) : Kd.C P.k45 w A l0.length l0 := Kd.F_now h.tree

end Go.Proofs.YtghhnnbbjlipcaaGreatDoor.X
