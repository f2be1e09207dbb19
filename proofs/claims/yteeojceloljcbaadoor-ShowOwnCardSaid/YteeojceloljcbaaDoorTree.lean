/-
  An argument that is a tree, opened: the list of its parts, as memory holds them.
-/
import Derived.Test.YteeojceloljcbaaDoorLawV
import Derived.Deep.Slices
import Derived.ChangeArms
import Derived.ProofKit
import Derived.SizedLaws
set_option linter.unusedVariables false
set_option linter.unusedSimpArgs false
namespace Go.Proofs.YteeojceloljcbaaDoor.H
open Go.RowKit Go.ChangeShapes Go.WideShapes Go.Deep Go.Proofs.YteeojceloljcbaaDoorW.PrintWords Go.Proofs.YteeojceloljcbaaDoorW.PrintLast Go.Proofs.YteeojceloljcbaaDoor.P
variable {H : Type} {enc : TypeId × Value → H} {W : World} {fuel : Nat}

theorem cells_part : Tryd.prog.cellsOf 45 = 4 := by kernel_rfl
theorem cells_int : Tryd.prog.cellsOf 3 = 1 := by kernel_rfl
theorem cells_kind : Tryd.prog.cellsOf 42 = 1 := by kernel_rfl
theorem cells_string : Tryd.prog.cellsOf 9 = 1 := by kernel_rfl
theorem cells_ints : Tryd.prog.cellsOf 43 = 1 := by kernel_rfl
theorem cells_parts : Tryd.prog.cellsOf 22 = 1 := by kernel_rfl
theorem cells_tree : Tryd.prog.cellsOf 24 = 1 := by kernel_rfl
theorem bytes_int : Tryd.prog.bytesOf 3 = 8 := by kernel_rfl
theorem bytes_part : Tryd.prog.bytesOf 45 = 56 := by kernel_rfl
/-- What a world holds, a world that agrees on its blocks holds. -/
theorem cell_agree {W W' : World} (hW : ∀ k, True → k < W.heap.size → W'.heap[k]? = W.heap[k]?) {a : Addr} {u : Value} (h : W.cell? a = some u) : W'.cell? a = some u := by
  have hl : a.block < W.heap.size := World.block_lt_of_cell? W a h
  unfold World.cell? at h ⊢
  rw [hW _ trivial hl]
  exact h
theorem ints_F {a : Addr} {len : Nat} {zs : List Int} (hl : zs.length = len) (hm : len ≤ 9223372036854775807) (h : ∀ i, i < len → W.cell? (a.add i) = some (.int .i64 (zs.getD i 0))) : Kd.F (Kd.int .i64) W (fun _ => True) (some a) len zs := by
  intro W' hW
  refine ⟨hl, hm, fun _ => ⟨a, rfl, fun j p hp => ⟨[.int .i64 p], rfl, rfl, fun i u hu => ?_⟩⟩⟩
  have hj : j < len := by rw [← hl]; exact (List.getElem?_eq_some_iff.1 hp).1
  have e : zs.getD j 0 = p := by rw [List.getD_eq_getElem?_getD, hp]; rfl
  match i, hu with
  | 0, hu =>
    obtain rfl := Option.some.inj hu
    have := cell_agree hW (h j hj)
    rw [e] at this
    simpa [Kd.int, Kd.scalar] using this
set_option maxRecDepth 100000 in
/-- One part, out of its four cells. -/
theorem part_of_trod {cs : List Value} {d : DataW H} {ps : List MemPlace} (hc : cs.length = 4) (h : DataW.trod enc Tryd.prog W 0 (fun _ => true) true fuel 45 cs = some (d, ps)) :
    ∃ (p : Pt) (A3 : Option Addr) (c3 : Nat), cs = [.int .i64 p.f0, .string p.f1, .int .i64 p.f2, .slice A3 p.f3.length c3] ∧ p.f3.length ≤ c3 ∧ Kd.F (Kd.int .i64) W (fun _ => True) A3 p.f3.length p.f3 ∧
      ((∀ n ∈ d.weights Tryd.prog 45, n ≤ reachBytes) → p.f3.length ≤ 140737488355328) := by
  obtain ⟨xs, n, rfl, hx, hlen, hxs, hf⟩ := DataW.trod_struct Tryd.underlying45 h
  match cs, hc with
  | [v0, v1, v2, v3], _ =>
  match xs, hxs with
  | [x0, x1, x2, x3], _ =>
  have h0 : DataW.trod enc Tryd.prog W 0 (fun _ => true) true n 42 (([v0, v1, v2, v3].drop 0).take (Tryd.prog.cellsOf 42)) = some x0 := hf 0 _ rfl
  have h1 : DataW.trod enc Tryd.prog W 0 (fun _ => true) true n 9 (([v0, v1, v2, v3].drop 1).take (Tryd.prog.cellsOf 9)) = some x1 := hf 1 _ rfl
  have h2 : DataW.trod enc Tryd.prog W 0 (fun _ => true) true n 3 (([v0, v1, v2, v3].drop 2).take (Tryd.prog.cellsOf 3)) = some x2 := hf 2 _ rfl
  have h3 : DataW.trod enc Tryd.prog W 0 (fun _ => true) true n 43 (([v0, v1, v2, v3].drop 3).take (Tryd.prog.cellsOf 43)) = some x3 := hf 3 _ rfl
  rw [cells_kind] at h0
  rw [cells_string] at h1
  rw [cells_int] at h2
  rw [cells_ints] at h3
  obtain ⟨k, e0, -, -⟩ := DataW.trod_int Tryd.underlying42 h0
  obtain ⟨s, e1, -, -⟩ := DataW.trod_string Tryd.underlying9 h1
  obtain ⟨m, e2, -, -⟩ := DataW.trod_int Tryd.underlying3 h2
  obtain rfl : v0 = .int .i64 k := by simpa using e0
  obtain rfl : v1 = .string s := by simpa using e1
  obtain rfl : v2 = .int .i64 m := by simpa using e2
  have hw : ∀ n ∈ x3.1.weights Tryd.prog 43, n ∈ d.weights Tryd.prog 45 := by
    intro n hn
    obtain ⟨rfl, rfl⟩ := Prod.mk.inj hx
    simp only [List.map, DataW.weights, Tryd.underlying45]
    exact DataW.weights_mem_each (j := 3) rfl rfl n hn
  rcases open_ints Tryd.underlying43 Tryd.underlying3 cells_int h3 with ⟨e3, hx3⟩ | ⟨a, len, cap, zs, e3, _, hlc, hcm, hzl, hx3, hcell, _⟩
  · obtain rfl : v3 = .slice none 0 0 := by simpa using e3
    exact ⟨⟨k, s, m, []⟩, none, 0, rfl, Nat.le_refl _, Kd.F_nil _ _ _, fun _ => Nat.zero_le _⟩
  · obtain rfl : v3 = .slice (some a) len cap := by simpa using e3
    simp only [if_true] at hzl
    have htl : (zs.take len).length = len := by rw [List.length_take]; omega
    have hmx : len ≤ 9223372036854775807 := by have : cap ≤ 2 ^ 63 - 1 := hcm; omega
    refine ⟨⟨k, s, m, zs.take len⟩, some a, cap, by simp only [htl], by rw [htl]; exact hlc, ?_, fun hall => ?_⟩
    · rw [htl]
      refine ints_F htl hmx (fun i hi => ?_)
      rw [hcell i (by omega)]
      simp [List.getD_eq_getElem?_getD, List.getElem?_take, hi]
    · have := hall _ (hw _ (by rw [hx3]; simp only [DataW.weights, Tryd.underlying43]; exact List.mem_cons_self ..))
      rw [bytes_int] at this
      simp only [lits, List.length_map, reachBytes] at this
      rw [htl]
      simp at this
      omega
set_option maxRecDepth 100000 in
/-- A tree. -/
theorem tree_of_trod {b0 : Nat} {v : Value} {d : DataW H} {ps : List MemPlace} (hval : Value.okWide Tryd.prog W .any b0 24 v) (h : DataW.Trod enc Tryd.prog W 0 (fun _ => true) true 24 v d ps)
    (hw : ∀ n ∈ d.weights Tryd.prog 24, n ≤ reachBytes) :
    ∃ (A : Option Addr) (c : Nat) (l0 : List Pt), v = .agg #[.slice A l0.length c] ∧ l0.length ≤ c ∧ Kd.F k45 W (fun _ => True) A l0.length l0 ∧ Small l0 := by
  obtain ⟨cs, rfl, hsz⟩ := okWide_struct Tryd.underlying24 hval
  rw [cells_tree] at hsz
  obtain ⟨fu, hf⟩ := h
  have hcells : (Value.agg cs).cells.toList = cs.toList := rfl
  rw [hcells] at hf
  obtain ⟨cl⟩ := cs
  match cl, hsz with
  | [v0], _ =>
  obtain ⟨y0, n, hx, -, htr⟩ := trod_struct1 Tryd.underlying24 hf
  obtain ⟨rfl, rfl⟩ := Prod.mk.inj hx
  replace htr : DataW.trod enc Tryd.prog W 0 (fun _ => true) true n 22 (([v0].drop 0).take (Tryd.prog.cellsOf 22)) = some y0 := htr
  rw [cells_parts] at htr
  have hw2 : ∀ n ∈ y0.1.weights Tryd.prog 22, n ≤ reachBytes := by
    intro n hn
    refine hw n ?_
    simp only [DataW.weights, Tryd.underlying24]
    exact DataW.weights_mem_each (j := 0) rfl rfl n hn
  rcases open_slice Tryd.underlying22 htr with ⟨e0, hx0⟩ | ⟨a, len, cap, m, n', D, Pl, e0, _, hlc, hcm, hm, hx0, hcell⟩
  · obtain rfl : v0 = .slice none 0 0 := by simpa using e0
    exact ⟨none, 0, [], rfl, Nat.le_refl _, Kd.F_nil _ _ _, Nat.zero_le _, fun j hj => absurd hj (Nat.not_lt_zero _)⟩
  · obtain rfl : v0 = .slice (some a) len cap := by simpa using e0
    simp only [if_true] at hm
    subst hm
    rw [hx0] at hw2
    simp only [DataW.weights, Tryd.underlying22] at hw2
    have hlen := hw2 _ (List.mem_cons_self ..)
    rw [bytes_part] at hlen
    simp only [List.length_map, List.length_range, reachBytes] at hlen
    have key : ∀ i, ∃ p : Pt, i < len → ∃ (A3 : Option Addr) (c3 : Nat), W.cells? 0 (a.add (i * 4)) 4 = some [.int .i64 p.f0, .string p.f1, .int .i64 p.f2, .slice A3 p.f3.length c3] ∧ p.f3.length ≤ c3 ∧ Kd.F (Kd.int .i64) W (fun _ => True) A3 p.f3.length p.f3 ∧ p.f3.length ≤ 140737488355328 := by
      intro i
      by_cases hi : i < len
      · obtain ⟨cs', hc', ht'⟩ := hcell i (by omega)
        rw [cells_part] at hc'
        obtain ⟨p, A3, c3, rfl, h1, h2, h3⟩ := part_of_trod (World.cells?_some hc').2.1 ht'
        refine ⟨p, fun _ => ⟨A3, c3, hc', h1, h2, h3 (fun n hn => hw2 n (List.mem_cons_of_mem _ (List.mem_append_left _ ?_)))⟩⟩
        have go : ∀ (l : List (DataW H)) (d : DataW H), d ∈ l → ∀ n ∈ d.weights Tryd.prog 45, n ∈ DataW.weightsAll Tryd.prog 45 l := by
          intro l
          induction l with
          | nil => intro d hd; cases hd
          | cons x l ih =>
            intro d hd n hn
            simp only [DataW.weightsAll, List.mem_append]
            rcases List.mem_cons.1 hd with rfl | hd
            · exact .inl hn
            · exact .inr (ih d hd n hn)
        exact go _ (D i) (List.mem_map.2 ⟨i, List.mem_range.2 hi, rfl⟩) n hn
      · exact ⟨z45, fun h => absurd h hi⟩
    obtain ⟨f, hfp⟩ := Classical.skolem.1 key
    have hl0 : ((List.range len).map f).length = len := by simp
    have hget : ∀ j, j < len → ((List.range len).map f)[j]? = some (f j) := fun j hj => by simp [hj]
    refine ⟨some a, m, (List.range len).map f, by rw [hl0], by rw [hl0]; exact hlc, ?_, by rw [hl0]; omega, fun j hj => ?_⟩
    · rw [hl0]
      intro W' hW
      refine ⟨hl0, by have : m ≤ 2 ^ 63 - 1 := hcm; omega, fun _ => ⟨a, rfl, fun j p hp => ?_⟩⟩
      have hj : j < len := by rw [← hl0]; exact (List.getElem?_eq_some_iff.1 hp).1
      rw [hget j hj] at hp
      obtain rfl := Option.some.inj hp
      obtain ⟨A3, c3, hcs, h1, h2, -⟩ := hfp j hj
      refine ⟨_, rfl, k45_mk W' (f j) h1 (h2 W' hW), fun i u hu => ?_⟩
      have hil : i < 4 := (List.getElem?_eq_some_iff.1 hu).1
      have := (World.cells?_some hcs).2.2 i hil
      rw [hu] at this
      have e := cell_agree hW this
      rw [Addr.add_add] at e
      exact e
    · rw [hl0] at hj
      have e : rd_T45 ((List.range len).map f) (j : Int) = f j := by
        simp only [rd_T45, Int.toNat_natCast, List.getD_eq_getElem?_getD, hget j hj, Option.getD_some]
      rw [e]
      obtain ⟨_, _, _, _, _, h3⟩ := hfp j hj
      exact h3

end Go.Proofs.YteeojceloljcbaaDoor.H
