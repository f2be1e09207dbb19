/-
  The walk of ParseJoins.
-/
import Derived.Test.YtghhnnbbjlipcaaDoorJn
set_option linter.unusedVariables false
set_option linter.unusedSimpArgs false
namespace Go.Proofs.YtghhnnbbjlipcaaDoor.X
open Go.RowKit
theorem kid_lit (W : World) (cs : Array Value) (kids : List Nat) {k : Nat} (hk : k = kids.length) (hcs : cs.toList = kids.map fun k => Value.int .i64 (k : Nat)) (hl : kids.length ≤ 1000000) {g : Nat} (hg : g = W.heap.size) : kidRow (W.alloc (.cells cs 3)) 0 (.slice (some ⟨g, 0, none⟩) k k) kids := by
  subst hk hg
  have h := World.ownsRow_lit (base := 0) (e := 3) (size := 1) W cs kids.length (Nat.zero_le _) (by simp only [maxLen]; omega) (by rw [← Array.length_toList, hcs, List.length_map, Nat.mul_one])
  rw [hcs] at h
  exact h
theorem kid_drew {w : World} {u : Value} {kids : List Nat} (h : kidRow w 0 u kids) : kidRow w.drew 0 u kids := row_below h (Below.refl _ w).drew
/-- What stays through the call: the first world, the two trees, where their variables lie, the two rows of kids. -/
structure JC where
  w : World
  va : Value
  vb : Value
  ga : Nat
  gb : Nat
  ps : List PD
  qs : List PD
  one : Value
  two : Value
  k1 : List Nat
  k2 : List Nat
structure JS (C : JC) (rows : List (Value × List PD)) (W : World) : Prop where
  b : Below C.w.heap.size C.w W
  hp : PIn W C.va C.ps
  hq : PIn W C.vb C.qs
  k1 : kidRow W 0 C.one C.k1
  k2 : kidRow W 0 C.two C.k2
  ca : W.cell? ⟨C.ga, 0, none⟩ = some C.va
  za : C.ga < W.heap.size
  cb : W.cell? ⟨C.gb, 0, none⟩ = some C.vb
  zb : C.gb < W.heap.size
  rows : ∀ r ∈ rows, ∃ b kv, PRow W b r.1 r.2 kv
theorem JS.below {C : JC} {rows : List (Value × List PD)} {W W' : World} (h : JS C rows W) (hb : Below W.heap.size W W') : JS C rows W' :=
  ⟨h.b.trans (hb.mono h.b.size), h.hp.below hb, h.hq.below hb, row_below h.k1 hb, row_below h.k2 hb, cell_keep hb h.za h.ca, Nat.lt_of_lt_of_le h.za hb.size, cell_keep hb h.zb h.cb, Nat.lt_of_lt_of_le h.zb hb.size, fun r hr => by obtain ⟨b, kv, h1⟩ := h.rows r hr; exact ⟨b, kv, h1.below hb⟩⟩
theorem JS.add {C : JC} {rows : List (Value × List PD)} {W : World} {v : Value} {qs : List PD} {b : Nat} {kv : List Value} (h : JS C rows W) (hr : PRow W b v qs kv) : JS C ((v, qs) :: rows) W :=
  ⟨h.b, h.hp, h.hq, h.k1, h.k2, h.ca, h.za, h.cb, h.zb, fun r hm => (List.mem_cons.1 hm).elim (fun e => by subst e; exact ⟨b, kv, hr⟩) (fun hm => h.rows r hm)⟩
theorem JS.pin {C : JC} {rows : List (Value × List PD)} {W : World} {r : Value × List PD} (h : JS C rows W) (hm : r ∈ rows) : PIn W r.1 r.2 := by obtain ⟨b, kv, h1⟩ := h.rows r hm; exact h1.pin
/-- An empty row just made. -/
theorem row_new (W : World) : PRow (W.alloc (.cells #[] 41)) W.heap.size (.slice (some ⟨W.heap.size, 0, none⟩) 0 0) [] [] := PRow.lit W #[] (qs := []) (ku := []) rfl rfl (fun i hi => by simp at hi) (by simp) rfl
/-- One part just written down. -/
theorem row_lit1 (W : World) (cs : Array Value) (p : PD) (u : Value) (hcs : cs.toList = partCells p u) (hk : kidRow W 0 u p.kids) : PRow (W.alloc (.cells cs 41)) W.heap.size (.slice (some ⟨W.heap.size, 0, none⟩) 1 1) [p] [u] :=
  PRow.lit W cs (qs := [p]) (ku := [u]) (by rw [hcs]; simp [partRow]) rfl (fun i hi => by
    have : i = 0 := (by simpa using hi)
    subst this
    exact hk) (by simp) rfl
theorem three_lit (W : World) (key : ByteArray) (n : Nat) (u : Value) (k1 : List Nat) (hk : kidRow W 0 u k1) :
    PRow ((W.alloc (.cells #[.int .i64 (n : Nat), .int .i64 ((n : Int) + 1)] 3)).alloc (.cells #[.int .i64 20, .string key, .int .i64 0, u, .int .i64 12, .string ⟨#[]⟩, .int .i64 7, .slice none 0 0, .int .i64 6, .string ⟨#[]⟩, .int .i64 6, .slice (some ⟨W.heap.size, 0, none⟩) 2 2] 41)) (W.heap.size + 1) (.slice (some ⟨W.heap.size + 1, 0, none⟩) 3 3) [⟨20, key.data.toList, 0, k1⟩, ⟨12, [], 7, []⟩, ⟨6, [], 6, [n, n + 1]⟩] [u, .slice none 0 0, .slice (some ⟨W.heap.size, 0, none⟩) 2 2] := by
  have h := PRow.lit (W.alloc (.cells #[.int .i64 (n : Nat), .int .i64 ((n : Int) + 1)] 3)) #[.int .i64 20, .string key, .int .i64 0, u, .int .i64 12, .string ⟨#[]⟩, .int .i64 7, .slice none 0 0, .int .i64 6, .string ⟨#[]⟩, .int .i64 6, .slice (some ⟨W.heap.size, 0, none⟩) 2 2]
    (qs := [⟨20, key.data.toList, 0, k1⟩, ⟨12, [], 7, []⟩, ⟨6, [], 6, [n, n + 1]⟩]) (ku := [u, .slice none 0 0, .slice (some ⟨W.heap.size, 0, none⟩) 2 2]) (by simp [partRow, partCells]) rfl (fun i hi => by
      have : i = 0 ∨ i = 1 ∨ i = 2 := (by simp at hi; omega)
      rcases this with rfl | rfl | rfl
      · exact hk.alloc _
      · exact World.ownsRow_nil _ 0 _ _
      · exact kid_lit W _ [n, n + 1] rfl (by simp) (by simp) rfl) (by simp) (m := 3) rfl
  rw [World.size_alloc] at h
  exact h
theorem kid_nil (W : World) : kidRow W 0 (.slice none 0 0) [] := World.ownsRow_nil W 0 _ _
section
attribute [-go_sem] storeCells loadCells loadCellsFrom
attribute [local go_sem] st1b st_int
set_option maxHeartbeats 8000000 in
set_option maxRecDepth 100000 in
theorem joins_err1 (s t key : ByteArray) (w : World) (hs : s.size ≤ 140737488355328) (ht : t.size ≤ 140737488355328) (hL : LW w) (f : PF) (hr : parseL s.data.toList = .error f) :
    Calls Tryd.prog 6 #[.string s, .string t, .string key] w fun e w' => e = .returned (.bool true) ∧ Below w.heap.size w w' := by
  have HL := Lib.hid hL
  have PC := Lib.hid (fun W h => parse_c s W (by omega) h)
  rw [hr] at PC
  clear hL hr
  go_enter Tryd.func6, Tryd.ntmps6
  go_wp2_with (first
    | (go_at_call 8; refine (parse_shape t _ (by omega) (HL.out.below (HB3.out.alloc HB3.out.size _))).mono ?_; rintro e w4 ⟨hB4, a, n, c, vo, ve, rfl⟩; have HB4 := Lib.hid ((HB3.out.alloc HB3.out.size _).trans (hB4.mono (by have := HB3.out.size; simp; omega))); clear hB4)
    | (go_at_call 8; refine (PC.out _ (HL.out.below HB2.out)).mono ?_; rintro e w3 ⟨hB3, b, rfl, hb1, hb2⟩; have HB3 := Lib.hid (HB2.out.trans (hB3.mono HB2.out.size)); clear hB3 hb1 hb2)
    | (go_at_call 7; refine (wakes_any _ HL.out).mono ?_; rintro e w2 ⟨rfl, hB2⟩; have HB2 := Lib.hid hB2; clear hB2))
  go_ret
  exact ⟨rfl, HB4.out.alloc HB4.out.size _⟩
set_option maxHeartbeats 8000000 in
set_option maxRecDepth 100000 in
theorem joins_err2 (s t key : ByteArray) (w : World) (hs : s.size ≤ 140737488355328) (ht : t.size ≤ 140737488355328) (hL : LW w) (ps : List PD) (offs : List Nat) (f : PF) (hr : parseL s.data.toList = .ok (ps, offs)) (hr2 : parseL t.data.toList = .error f) :
    Calls Tryd.prog 6 #[.string s, .string t, .string key] w fun e w' => e = .returned (.bool true) ∧ Below w.heap.size w w' := by
  have HL := Lib.hid hL
  have PC := Lib.hid (fun W h => parse_c s W (by omega) h)
  have PC2 := Lib.hid (fun W h => parse_c t W (by omega) h)
  rw [hr] at PC
  rw [hr2] at PC2
  clear hL hr hr2
  go_enter Tryd.func6, Tryd.ntmps6
  go_wp2_with (first
    | (go_at_call 8; refine (PC2.out _ (HL.out.below (HB3.out.alloc HB3.out.size _))).mono ?_; rintro e w4 ⟨hB4, b, rfl, hb1, hb2⟩; have HB4 := Lib.hid ((HB3.out.alloc HB3.out.size _).trans (hB4.mono (by have := HB3.out.size; simp; omega))); clear hB4 hb1 hb2)
    | (go_at_call 8; refine (PC.out _ (HL.out.below HB2.out)).mono ?_; rintro e w3 ⟨hB3, vp, vo, kv, rfl, hT⟩; obtain ⟨avp, rfl⟩ := hT.parts.shp; have HB3 := Lib.hid (HB2.out.trans (hB3.mono HB2.out.size)); clear hB3 hT)
    | (go_at_call 7; refine (wakes_any _ HL.out).mono ?_; rintro e w2 ⟨rfl, hB2⟩; have HB2 := Lib.hid hB2; clear hB2))
  go_ret
  exact ⟨rfl, HB4.out.alloc HB4.out.size _⟩
end
theorem runF_small : ∀ (ps : List PD) (F : List Nat) (i : Nat) (R : List Nat), (∀ y ∈ F, y ≤ i) → runF F i ps = some R → ∀ p ∈ ps, ∀ x ∈ p.kids, x ≤ i + ps.length
  | [], F, i, R, _, h, p, hp => by cases hp
  | q :: ps, F, i, R, hF, h, p, hp => by
    simp only [runF, stepF] at h
    split at h
    · cases h
    · rename_i f hf
      split at hf
      · rename_i hfit
        injection hf with hf
        intro x hx
        rcases List.mem_cons.1 hp with rfl | hp
        · rw [← hfit.2.1] at hx
          have := hF x (List.mem_of_mem_drop hx)
          omega
        · have := runF_small ps f (i + 1) R (fun y hy => by
            rw [← hf] at hy
            rcases List.mem_append.1 hy with hy | hy
            · have := hF y (List.mem_of_mem_take hy); omega
            · have := List.mem_singleton.1 hy; omega) h p hp x hx
          simp only [List.length_cons]
          omega
      · cases hf
theorem kids_small {l : Bs} {ps : List PD} {offs : List Nat} (h : parseL l = .ok (ps, offs)) (p : PD) (hp : p ∈ ps) : ∀ x ∈ p.kids, x ≤ 1000000 := by
  rcases either_cases l with ⟨ps', offs', h1, h2, h3, ⟨r0, h4⟩, h5⟩ | ⟨f, h1, h2, h3⟩
  · rw [h] at h1
    injection h1 with h1
    injection h1 with e1 e2
    subst e1 e2
    intro x hx
    have := runF_small ps [] 0 [r0] (fun y hy => by cases hy) h4 p hp x hx
    omega
  · rw [h] at h1; cases h1
set_option maxHeartbeats 16000000 in
set_option maxRecDepth 100000 in
theorem joins_ok (s t key : ByteArray) (w : World) (hs : s.size ≤ 140737488355328) (ht : t.size ≤ 140737488355328) (hky : key.size ≤ 140737488355328) (hL : LW w) (ps qs : List PD) (offs offs2 : List Nat) (hr : parseL s.data.toList = .ok (ps, offs)) (hr2 : parseL t.data.toList = .ok (qs, offs2)) :
    Calls Tryd.prog 6 #[.string s, .string t, .string key] w fun e w' => e = .returned (.bool true) ∧ Below w.heap.size w w' := by
  have HL := Lib.hid hL
  have PC := Lib.hid (fun W h => parse_c s W (by omega) h)
  have PC2 := Lib.hid (fun W h => parse_c t W (by omega) h)
  rw [hr] at PC
  rw [hr2] at PC2
  obtain ⟨hn1, hk1, _⟩ := either_len hr
  obtain ⟨hm1, hk2, _⟩ := either_len hr2
  obtain ⟨ts, o1, S1⟩ := src_of hr
  obtain ⟨vs, o2, S2⟩ := src_of hr2
  have hn0 : 0 < ps.length := S1.run.2.1
  have hm0 : 0 < qs.length := S2.run.2.1
  have hs4 : s.size ≤ 4096 := by have := (prefix_chain S1.scan).1; have h4 : s.data.toList.length = s.size := (by simp); omega
  have ht4 : t.size ≤ 4096 := by have := (prefix_chain S2.scan).1; have h4 : t.data.toList.length = t.size := (by simp); omega
  have RA := Lib.hid (fun (W : World) (v : Value) (hl : LW W) (hv : PIn W v ((ps ++ qs.map (shP ps.length)) ++ [⟨4, [], 0, [ps.length - 1, ps.length + (qs.length - 1)]⟩])) => reads_any (⟨#[40]⟩ ++ s ++ ⟨#[10, 41, 32, 38, 38, 32, 40]⟩ ++ t ++ ⟨#[10, 41]⟩) v W (by simp only [ByteArray.size_append]; simp only [ByteArray.size]; simp; have : s.size = s.data.size := rfl; have : t.size = t.data.size := rfl; omega) hl _ (by have h := reads_and S1 S2; rw [← List.append_assoc ps] at h; simpa using h) hv)
  have RO := Lib.hid (fun (W : World) (v : Value) (hl : LW W) (hv : PIn W v ((ps ++ qs.map (shP ps.length)) ++ [⟨5, [], 0, [ps.length - 1, ps.length + (qs.length - 1)]⟩])) => reads_any (⟨#[40]⟩ ++ s ++ ⟨#[10, 41, 124, 124, 40]⟩ ++ t ++ ⟨#[10, 41]⟩) v W (by simp only [ByteArray.size_append]; simp only [ByteArray.size]; simp; have : s.size = s.data.size := rfl; have : t.size = t.data.size := rfl; omega) hl _ (by have h := reads_or S1 S2; rw [← List.append_assoc ps] at h; simpa using h) hv)
  have RN := Lib.hid (fun (W : World) (v : Value) (hl : LW W) (hv : PIn W v (ps ++ [⟨3, [], 0, [ps.length - 1]⟩])) => reads_any (⟨#[33, 40]⟩ ++ s ++ ⟨#[10, 41]⟩) v W (by simp only [ByteArray.size_append]; simp only [ByteArray.size]; simp; have : s.size = s.data.size := rfl; omega) hl _ (by have h := reads_not S1; simpa using h) hv)
  have RP := Lib.hid (fun (W : World) (v : Value) (hl : LW W) (hv : PIn W v ps) => reads_any (⟨#[32, 40, 32]⟩ ++ s ++ ⟨#[10, 32, 41, 32]⟩) v W (by simp only [ByteArray.size_append]; simp only [ByteArray.size]; simp; have : s.size = s.data.size := rfl; omega) hl _ (by have h := reads_par S1; simpa using h) hv)
  have hql : key.size ≤ 127 → (quoteL key.data.toList).length ≤ 1000 := fun hk => by rw [quote_len]; have := (qAll_fine key.data.toList).2; have h4 : key.data.toList.length = key.size := (by simp); omega
  have RE0 := Lib.hid (fun (hk : key.size ≤ 127) (W : World) (v : Value) (hl : LW W) (hv : PIn W v (ps ++ [⟨8, key.data.toList, 0, [ps.length - 1]⟩])) => reads_any (⟨#[110, 101, 97, 114, 40]⟩ ++ ⟨(quoteL key.data.toList).toArray⟩ ++ ⟨#[44]⟩ ++ s ++ ⟨#[10, 41]⟩) v W (by have := hql hk; simp only [ByteArray.size_append]; simp only [ByteArray.size]; simp; have : s.size = s.data.size := rfl; omega) hl _ (by have h := reads_near S1 (key := key.data.toList) (by have h4 : key.data.toList.length = key.size := (by simp); omega); simpa using h) hv)
  have RT0 := Lib.hid (fun (hk : key.size ≤ 127) (W : World) (v : Value) (hl : LW W) (hv : PIn W v (ps ++ [⟨9, key.data.toList, 0, [ps.length - 1]⟩])) => reads_any (⟨#[97, 112, 97, 114, 116, 40]⟩ ++ ⟨(quoteL key.data.toList).toArray⟩ ++ ⟨#[44, 32]⟩ ++ s ++ ⟨#[10, 41]⟩) v W (by have := hql hk; simp only [ByteArray.size_append]; simp only [ByteArray.size]; simp; have : s.size = s.data.size := rfl; omega) hl _ (by have h := reads_apart S1 (key := key.data.toList) (by have h4 : key.data.toList.length = key.size := (by simp); omega); simpa using h) hv)
  have RC0 := Lib.hid (fun (hk : key.size ≤ 127) (W : World) (v : Value) (hl : LW W) (hv : PIn W v (ps ++ [⟨20, key.data.toList, 0, [ps.length - 1]⟩, ⟨12, [], 7, []⟩, ⟨6, [], 6, [ps.length, ps.length + 1]⟩])) => reads_any (⟨#[99, 111, 117, 110, 116, 40]⟩ ++ ⟨(quoteL key.data.toList).toArray⟩ ++ ⟨#[44]⟩ ++ s ++ ⟨#[10, 41, 62, 61, 55]⟩) v W (by have := hql hk; simp only [ByteArray.size_append]; simp only [ByteArray.size]; simp; have : s.size = s.data.size := rfl; omega) hl _ (by have h := reads_count S1 (key := key.data.toList) (by have h4 : key.data.toList.length = key.size := (by simp); omega); simpa using h) hv)
  have HS1 := Lib.hid S1
  have HS2 := Lib.hid S2
  have HKB1 := Lib.hid (fun p hp => (⟨hk1 p hp, kids_small hr p hp⟩ : p.kids.length ≤ 1000000 ∧ ∀ x ∈ p.kids, x ≤ 1000000))
  have HKB2 := Lib.hid (fun p hp => (⟨hk2 p hp, kids_small hr2 p hp⟩ : p.kids.length ≤ 1000000 ∧ ∀ x ∈ p.kids, x ≤ 1000000))
  obtain ⟨n, hn⟩ : ∃ n, n = ps.length := ⟨_, rfl⟩
  obtain ⟨m, hm⟩ : ∃ m, m = qs.length := ⟨_, rfl⟩
  have HN := Lib.hid hn
  have HM := Lib.hid hm
  rw [← hn] at hn0 hn1 RA RO RN RE0 RT0 RC0
  rw [← hm] at hm0 hm1 RA RO
  have HQL := Lib.hid hql
  clear hL hr hr2 S1 S2 hk1 hk2 hn hm hql
  have hnI : (1 : Int) ≤ (n : Int) := by omega
  have hmI : (1 : Int) ≤ (m : Int) := by omega
  have hnz : ((n : Int) == 0) = false := by simp; omega
  have hmz : ((m : Int) == 0) = false := by simp; omega
  go_enter Tryd.func6, Tryd.ntmps6
  go_upto_region 8 with (first
    | (go_at_call 8; refine (PC2.out _ (HL.out.below (HB3.out.alloc HB3.out.size _))).mono ?_; rintro e w4 ⟨hB4, vp2, vo2, kv2, rfl, hU⟩; obtain ⟨avq, hq⟩ := hU.parts.shp; rw [← HM.out] at hq; subst hq; have HQ4 := Lib.hid hU.pin; have HP4 := Lib.hid (HP3.out.below (((Below.refl _ w3).alloc (Nat.le_refl _) _).trans (hB4.mono (by simp)))); have c7 : w4.cell? ⟨w3.heap.size, 0, none⟩ = some (.slice avp n n) := cell_keep hB4 (by simp) ((Lib.cell_of_heap (Go.heap_alloc_new w3 _) 0).trans rfl); have hq3 : w3.heap.size < w4.heap.size := (by have := hB4.size; simp at this; omega); have HB4 := Lib.hid ((HB3.out.alloc HB3.out.size _).trans (hB4.mono (by have := HB3.out.size; simp; omega))); clear hB4 hU)
    | (go_at_call 8; refine (PC.out _ (HL.out.below HB2.out)).mono ?_; rintro e w3 ⟨hB3, vp, vo, kv, rfl, hT⟩; obtain ⟨avp, hp⟩ := hT.parts.shp; rw [← HN.out] at hp; subst hp; have HP3 := Lib.hid hT.pin; have HB3 := Lib.hid (HB2.out.trans (hB3.mono HB2.out.size)); clear hB3 hT)
    | (go_at_call 7; refine (wakes_any _ HL.out).mono ?_; rintro e w2 ⟨rfl, hB2⟩; have HB2 := Lib.hid hB2; clear hB2))
  have hB5 : Below w4.heap.size w4 (w4.alloc (.cells #[.slice avq m m] 25)) := (Below.refl _ w4).alloc (Nat.le_refl _) _
  have HB5 := Lib.hid (HB4.out.trans (hB5.mono HB4.out.size))
  have HP5 := Lib.hid (HP4.out.below hB5)
  have HQ5 := Lib.hid (HQ4.out.below hB5)
  have e7 : (w4.alloc (.cells #[.slice avq m m] 25)).cell? ⟨w3.heap.size, 0, none⟩ = some (.slice avp n n) := cell_keep hB5 hq3 c7
  have e10 : (w4.alloc (.cells #[.slice avq m m] 25)).cell? ⟨w4.heap.size, 0, none⟩ = some (.slice avq m m) := (Lib.cell_of_heap (Go.heap_alloc_new w4 _) 0).trans rfl
  have hz5 : w3.heap.size < (w4.alloc (.cells #[.slice avq m m] 25)).heap.size ∧ w4.heap.size < (w4.alloc (.cells #[.slice avq m m] 25)).heap.size := by simp; omega
  obtain ⟨hz5, hz5b⟩ := hz5
  clear hB5 c7 HB4 HP4 HQ4 hq3
  generalize hW : w4.alloc (.cells #[.slice avq m m] 25) = W at *
  clear hW
  go_cut [14, 15] from 24 (fun o u wx => ∃ g1 g2, o = .slice (some ⟨g1, 0, none⟩) 1 1 ∧ u = .slice (some ⟨g2, 0, none⟩) 2 2 ∧ Hid (kidRow wx 0 (.slice (some ⟨g1, 0, none⟩) 1 1) [n - 1]) ∧ Hid (kidRow wx 0 (.slice (some ⟨g2, 0, none⟩) 2 2) [n - 1, n + (m - 1)]) ∧ Hid (Below W.heap.size W wx))
  case first =>
    go_region
    all_goals go_wp2_with fail
    · go_meet
      refine ⟨_, _, rfl, rfl, Lib.hid (kid_drew ((kid_lit W _ [n - 1] rfl (by simp; omega) (by simp) rfl).alloc _)), Lib.hid (kid_drew (kid_lit _ _ [n - 1, n + (m - 1)] rfl (by simp; omega) (by simp) (by simp))), Lib.hid ((((Below.refl _ W).alloc (Nat.le_refl _) _).alloc (by simp) _).drew)⟩
    · go_meet
      refine ⟨_, _, rfl, rfl, Lib.hid (kid_drew (kid_lit _ _ [n - 1] rfl (by simp; omega) (by simp) (by simp))), Lib.hid (kid_drew ((kid_lit W _ [n - 1, n + (m - 1)] rfl (by simp; omega) (by simp) rfl).alloc _)), Lib.hid ((((Below.refl _ W).alloc (Nat.le_refl _) _).alloc (by simp) _).drew)⟩
  case rest =>
    obtain ⟨g1, g2, rfl, rfl, K1, K2, BW⟩ := hcut
    obtain ⟨w8, rfl⟩ : ∃ w8 : World, w8 = wc := ⟨_, rfl⟩
    have LV : Hid (JS ⟨w, .slice avp n n, .slice avq m m, w3.heap.size, w4.heap.size, ps, qs, .slice (some ⟨g1, 0, none⟩) 1 1, .slice (some ⟨g2, 0, none⟩) 2 2, [n - 1], [n - 1, n + (m - 1)]⟩ [] w8) :=
      Lib.hid ⟨HB5.out.trans (BW.out.mono HB5.out.size), HP5.out.below BW.out, HQ5.out.below BW.out, K1.out, K2.out, cell_keep BW.out hz5 e7, Nat.lt_of_lt_of_le hz5 BW.out.size, cell_keep BW.out hz5b e10, Nat.lt_of_lt_of_le hz5b BW.out.size, fun r hr => by cases hr⟩
    have ca := LV.out.ca
    have za := LV.out.za
    have cb := LV.out.cb
    have zb := LV.out.zb
    simp only at ca za cb zb
    have S0 : Hid (∀ W', Below w8.heap.size w8 W' → Calls Tryd.prog 15 #[.agg #[.slice avp n n], .int .i64 0] W' (ShAns W' ps)) := Lib.hid (fun W' hb => by
      have h := shifted_any (show ps.length ≤ 100000 by have := HN.out; omega) 0 (by omega) (LV.out.hp.below hb) HKB1.out
      rw [shP_zero] at h
      exact h)
    have Sn : Hid (∀ W', Below w8.heap.size w8 W' → Calls Tryd.prog 15 #[.agg #[.slice avq m m], .int .i64 n] W' (ShAns W' (qs.map (shP n)))) := Lib.hid (fun W' hb => shifted_any (show qs.length ≤ 100000 by have := HM.out; omega) n (by omega) (LV.out.hq.below hb) HKB2.out)
    clear K1 K2 BW e7 e10 hz5 hz5b HP5 HQ5
    go_upto_region 9 with fail
    go_cut [16] from 24 (fun o wx => ∃ kv, Hid (PRow wx w8.heap.size o (ps ++ qs.map (shP n)) kv) ∧ Hid (Below w8.heap.size w8 wx))
    case first =>
      go_region_law (first
        | (refine app_step rfl (.tmp 78) (.tmp 81) rfl rfl rfl P1.out P2.out (by rw [List.length_map]; have := HM.out; omega) (by first | exact B1w.out.size | exact B2w.out.size) (by rw [List.length_map]; have := HM.out; have := HN.out; omega) ?_; intro v82 w82 hP hB; have P3 := Lib.hid hP; have B3w : Hid (Below w8.heap.size w8 w82) := Lib.hid (by first | exact B1w.out.trans hB | exact B2w.out.trans hB); clear hP hB)
        | (go_simp; go_at_call 15; (with_reducible refine (S0.out _ ?sa).mono ?_); (case sa => first | exact B2w.out | exact (Below.refl _ _).drew); rintro e w5 ⟨v78, k78, rfl, hP1, hB1⟩; (try have P2 := Lib.hid (P2.out.below hB1)); have B1w : Hid (Below w8.heap.size w8 w5) := Lib.hid (by first | exact B2w.out.trans (hB1.mono B2w.out.size) | exact ((Below.refl _ w8).drew).trans hB1); have ca5 : w5.cell? ⟨w3.heap.size, 0, none⟩ = some (.slice avp n n) := (LV.out.below B1w.out).ca; have cb5 : w5.cell? ⟨w4.heap.size, 0, none⟩ = some (.slice avq m m) := (LV.out.below B1w.out).cb; have za5 : w3.heap.size < w5.heap.size := (LV.out.below B1w.out).za; have zb5 : w4.heap.size < w5.heap.size := (LV.out.below B1w.out).zb; have P1 := Lib.hid (hP1.weak (base' := w8.heap.size) (by first | exact B2w.out.size | exact Nat.le_refl _)); clear hP1 hB1)
        | (go_simp; go_at_call 15; (with_reducible refine (Sn.out _ ?sb).mono ?_); (case sb => first | exact B1w.out | exact (Below.refl _ _).drew); rintro e w6 ⟨v81, k81, rfl, hP2, hB2⟩; (try have P1 := Lib.hid (P1.out.below hB2)); have B2w : Hid (Below w8.heap.size w8 w6) := Lib.hid (by first | exact B1w.out.trans (hB2.mono B1w.out.size) | exact ((Below.refl _ w8).drew).trans hB2); have ca6 : w6.cell? ⟨w3.heap.size, 0, none⟩ = some (.slice avp n n) := (LV.out.below B2w.out).ca; have cb6 : w6.cell? ⟨w4.heap.size, 0, none⟩ = some (.slice avq m m) := (LV.out.below B2w.out).cb; have za6 : w3.heap.size < w6.heap.size := (LV.out.below B2w.out).za; have zb6 : w4.heap.size < w6.heap.size := (LV.out.below B2w.out).zb; have P2 := Lib.hid hP2; clear hP2 hB2))
      all_goals go_wp2_with fail
      all_goals (go_meet; exact ⟨_, Lib.hid P3.out, B3w⟩)
    case rest =>
      obtain ⟨kv16, R16, B16⟩ := hcut
      obtain ⟨w9, rfl⟩ : ∃ w9 : World, w9 = wc := ⟨_, rfl⟩
      have LV := Lib.hid (LV.out.below B16.out)
      have BC := Lib.hid B16.out
      have caw9 : w9.cell? ⟨w3.heap.size, 0, none⟩ = some (.slice avp n n) := LV.out.ca
      have cbw9 : w9.cell? ⟨w4.heap.size, 0, none⟩ = some (.slice avq m m) := LV.out.cb
      have zaw9 : w3.heap.size < w9.heap.size := LV.out.za
      have zbw9 : w4.heap.size < w9.heap.size := LV.out.zb
      clear ca za cb zb B16 Sn
      by_cases hkl : 127 < key.size
      · have hkI : (127 : Int) < (key.size : Int) := by omega
        go_wp2_with (first
        | (go_at_call 16; have _t := tok136; refine (RP.out _ v136 (HL.out.below (LV.out.below H136.out).b) P136.out.pin).mono ?_; rintro e w137 ⟨rfl, hB⟩; have hb : Below w128.heap.size w128 w137 := H136.out.trans (hB.mono H136.out.size); have R16 := Lib.hid (R16.out.below hb); have LV := Lib.hid ((LV.out.below hb)); have BC := Lib.hid (BC.out.trans (Below.mono hb BC.out.size)); have caw137 : w137.cell? ⟨w3.heap.size, 0, none⟩ = some (.slice avp n n) := LV.out.ca; have cbw137 : w137.cell? ⟨w4.heap.size, 0, none⟩ = some (.slice avq m m) := LV.out.cb; have zaw137 : w3.heap.size < w137.heap.size := LV.out.za; have zbw137 : w4.heap.size < w137.heap.size := LV.out.zb; have tok137 := trivial; clear hb hB)
        | (go_at_call 15; have _t := tok128; (with_reducible refine (S0.out _ BC.out).mono ?_); rintro e w136 ⟨v136, k136, rfl, hP, hB⟩; have P136 := Lib.hid hP; have H136 := Lib.hid hB; have tok136 := trivial; clear hP hB)
        | (go_at_call 16; have _t := tok120; refine (RN.out _ v102 (HL.out.below LV.out.b) (LV.out.pin (List.Mem.head _))).mono ?_; rintro e w128 ⟨rfl, hb⟩; have R16 := Lib.hid (R16.out.below hb); have LV := Lib.hid ((LV.out.below hb)); have BC := Lib.hid (BC.out.trans (Below.mono hb BC.out.size)); have caw128 : w128.cell? ⟨w3.heap.size, 0, none⟩ = some (.slice avp n n) := LV.out.ca; have cbw128 : w128.cell? ⟨w4.heap.size, 0, none⟩ = some (.slice avq m m) := LV.out.cb; have zaw128 : w3.heap.size < w128.heap.size := LV.out.za; have zbw128 : w4.heap.size < w128.heap.size := LV.out.zb; have tok128 := trivial; clear hb)
        | (go_at_call 16; have _t := tok110; refine (RO.out _ v96 (HL.out.below LV.out.b) (LV.out.pin (List.Mem.tail _ (List.Mem.head _)))).mono ?_; rintro e w120 ⟨rfl, hb⟩; have R16 := Lib.hid (R16.out.below hb); have LV := Lib.hid ((LV.out.below hb)); have BC := Lib.hid (BC.out.trans (Below.mono hb BC.out.size)); have caw120 : w120.cell? ⟨w3.heap.size, 0, none⟩ = some (.slice avp n n) := LV.out.ca; have cbw120 : w120.cell? ⟨w4.heap.size, 0, none⟩ = some (.slice avq m m) := LV.out.cb; have zaw120 : w3.heap.size < w120.heap.size := LV.out.za; have zbw120 : w4.heap.size < w120.heap.size := LV.out.zb; have tok120 := trivial; clear hb)
        | (go_at_call 16; have _t := tok102; refine (RA.out _ v89 (HL.out.below LV.out.b) (LV.out.pin (List.Mem.tail _ (List.Mem.tail _ (List.Mem.head _))))).mono ?_; rintro e w110 ⟨rfl, hb⟩; have R16 := Lib.hid (R16.out.below hb); have LV := Lib.hid ((LV.out.below hb)); have BC := Lib.hid (BC.out.trans (Below.mono hb BC.out.size)); have caw110 : w110.cell? ⟨w3.heap.size, 0, none⟩ = some (.slice avp n n) := LV.out.ca; have cbw110 : w110.cell? ⟨w4.heap.size, 0, none⟩ = some (.slice avq m m) := LV.out.cb; have zaw110 : w3.heap.size < w110.heap.size := LV.out.za; have zbw110 : w4.heap.size < w110.heap.size := LV.out.zb; have tok110 := trivial; clear hb)
        | (at_builtin; have _t := tok98; refine app_wp rfl (.tmp 98) (.tmp 101) rfl rfl rfl (P98.out.below ((Below.refl _ w98).alloc (Nat.le_refl _) _)) (row_lit1 w98 _ ⟨3, [], 0, [n - 1]⟩ (.slice (some ⟨g1, 0, none⟩) 1 1) rfl (row_below LV.out.k1 H98.out)) (by simp) (by have := H98.out.size; simp; omega) (by simp only [List.length_append, List.length_map, List.length_nil, List.length_cons]; have := HM.out; have := HN.out; omega) ?_; intro v102 w102 hP hB; have hb : Below w96.heap.size w96 w102 := (H98.out.alloc H98.out.size _).trans hB; have R16 := Lib.hid (R16.out.below hb); have LV := Lib.hid ((LV.out.below hb).add hP); have BC := Lib.hid (BC.out.trans (Below.mono hb BC.out.size)); have caw102 : w102.cell? ⟨w3.heap.size, 0, none⟩ = some (.slice avp n n) := LV.out.ca; have cbw102 : w102.cell? ⟨w4.heap.size, 0, none⟩ = some (.slice avq m m) := LV.out.cb; have zaw102 : w3.heap.size < w102.heap.size := LV.out.za; have zbw102 : w4.heap.size < w102.heap.size := LV.out.zb; have tok102 := trivial; clear hP hB hb)
        | (go_at_call 15; have _t := tok96; (with_reducible refine (S0.out _ BC.out).mono ?_); rintro e w98 ⟨v98, k98, rfl, hP, hB⟩; have P98 := Lib.hid hP; have H98 := Lib.hid hB; have tok98 := trivial; clear hP hB)
        | (at_builtin; have _t := tok92; refine app_wp rfl (.tmp 92) (.tmp 95) rfl rfl rfl (P92.out.below ((Below.refl _ w92).alloc (Nat.le_refl _) _)) (row_lit1 w92 _ ⟨5, [], 0, [n - 1, n + (m - 1)]⟩ (.slice (some ⟨g2, 0, none⟩) 2 2) rfl (row_below LV.out.k2 H92.out)) (by simp) (by have := H92.out.size; simp; omega) (by simp only [List.length_append, List.length_map, List.length_nil, List.length_cons]; have := HM.out; have := HN.out; omega) ?_; intro v96 w96 hP hB; have hb : Below w89.heap.size w89 w96 := (H92.out.alloc H92.out.size _).trans hB; have R16 := Lib.hid (R16.out.below hb); have LV := Lib.hid ((LV.out.below hb).add hP); have BC := Lib.hid (BC.out.trans (Below.mono hb BC.out.size)); have caw96 : w96.cell? ⟨w3.heap.size, 0, none⟩ = some (.slice avp n n) := LV.out.ca; have cbw96 : w96.cell? ⟨w4.heap.size, 0, none⟩ = some (.slice avq m m) := LV.out.cb; have zaw96 : w3.heap.size < w96.heap.size := LV.out.za; have zbw96 : w4.heap.size < w96.heap.size := LV.out.zb; have tok96 := trivial; clear hP hB hb)
        | (at_builtin; have _t := tok89; refine app_wp rfl (.tmp 90) (.tmp 91) rfl rfl rfl (row_new w89) (R16.out.below ((Below.refl _ w89).alloc (Nat.le_refl _) _)) (by rw [List.length_append, List.length_map]; have := HM.out; have := HN.out; omega) (by simp) (by simp only [List.length_nil]; rw [List.length_append, List.length_map]; have := HM.out; have := HN.out; omega) ?_; intro v92 w92 hP hB; have P92 := Lib.hid hP; have H92 : Hid (Below w89.heap.size w89 w92) := Lib.hid (((Below.refl _ w89).alloc (Nat.le_refl _) _).trans hB); have tok92 := trivial; clear hP hB)
        | (at_builtin; have _t := tok85; refine app_wp rfl (.tmp 85) (.tmp 88) rfl rfl rfl (P85.out.below ((Below.refl _ w85).alloc (Nat.le_refl _) _)) (row_lit1 w85 _ ⟨4, [], 0, [n - 1, n + (m - 1)]⟩ (.slice (some ⟨g2, 0, none⟩) 2 2) rfl (row_below LV.out.k2 H85.out)) (by simp) (by have := H85.out.size; simp; omega) (by simp only [List.length_append, List.length_map, List.length_nil, List.length_cons]; have := HM.out; have := HN.out; omega) ?_; intro v89 w89 hP hB; have hb : Below w9.heap.size w9 w89 := (H85.out.alloc H85.out.size _).trans hB; have R16 := Lib.hid (R16.out.below hb); have LV := Lib.hid ((LV.out.below hb).add hP); have BC := Lib.hid (BC.out.trans (Below.mono hb BC.out.size)); have caw89 : w89.cell? ⟨w3.heap.size, 0, none⟩ = some (.slice avp n n) := LV.out.ca; have cbw89 : w89.cell? ⟨w4.heap.size, 0, none⟩ = some (.slice avq m m) := LV.out.cb; have zaw89 : w3.heap.size < w89.heap.size := LV.out.za; have zbw89 : w4.heap.size < w89.heap.size := LV.out.zb; have tok89 := trivial; clear hP hB hb)
        | (at_builtin; refine app_wp rfl (.tmp 83) (.tmp 84) rfl rfl rfl (row_new w9) (R16.out.below ((Below.refl _ w9).alloc (Nat.le_refl _) _)) (by rw [List.length_append, List.length_map]; have := HM.out; have := HN.out; omega) (by simp) (by simp only [List.length_nil]; rw [List.length_append, List.length_map]; have := HM.out; have := HN.out; omega) ?_; intro v85 w85 hP hB; have P85 := Lib.hid hP; have H85 : Hid (Below w9.heap.size w9 w85) := Lib.hid (((Below.refl _ w9).alloc (Nat.le_refl _) _).trans hB); have tok85 := trivial; clear hP hB))
        go_ret
        exact ⟨rfl, LV.out.b⟩
      · have hkI : ¬ (127 : Int) < (key.size : Int) := by omega
        have RE := Lib.hid (RE0.out (by omega))
        have RT := Lib.hid (RT0.out (by omega))
        have RC := Lib.hid (RC0.out (by omega))
        have hqb : (quoteL key.data.toList).length ≤ 1000 := HQL.out (by omega)
        go_wp2_with (first
        | (go_at_call 16; have _t := tok188; refine (RC.out _ v169 (HL.out.below LV.out.b) (LV.out.pin (List.Mem.head _))).mono ?_; rintro e w198 ⟨rfl, hb⟩; have LV := Lib.hid ((LV.out.below hb)); have BC := Lib.hid (BC.out.trans (Below.mono hb BC.out.size)); have caw198 : w198.cell? ⟨w3.heap.size, 0, none⟩ = some (.slice avp n n) := LV.out.ca; have cbw198 : w198.cell? ⟨w4.heap.size, 0, none⟩ = some (.slice avq m m) := LV.out.cb; have zaw198 : w3.heap.size < w198.heap.size := LV.out.za; have zbw198 : w4.heap.size < w198.heap.size := LV.out.zb; have tok198 := trivial; clear hb)
        | (go_at_call 16; have _t := tok179; refine (RT.out _ v156 (HL.out.below LV.out.b) (LV.out.pin (List.Mem.tail _ (List.Mem.head _)))).mono ?_; rintro e w188 ⟨rfl, hb⟩; have LV := Lib.hid ((LV.out.below hb)); have BC := Lib.hid (BC.out.trans (Below.mono hb BC.out.size)); have caw188 : w188.cell? ⟨w3.heap.size, 0, none⟩ = some (.slice avp n n) := LV.out.ca; have cbw188 : w188.cell? ⟨w4.heap.size, 0, none⟩ = some (.slice avq m m) := LV.out.cb; have zaw188 : w3.heap.size < w188.heap.size := LV.out.za; have zbw188 : w4.heap.size < w188.heap.size := LV.out.zb; have tok188 := trivial; clear hb)
        | (go_at_call 16; have _t := tok171; refine (RE.out _ v149 (HL.out.below LV.out.b) (LV.out.pin (List.Mem.tail _ (List.Mem.tail _ (List.Mem.head _))))).mono ?_; rintro e w179 ⟨rfl, hb⟩; have LV := Lib.hid ((LV.out.below hb)); have BC := Lib.hid (BC.out.trans (Below.mono hb BC.out.size)); have caw179 : w179.cell? ⟨w3.heap.size, 0, none⟩ = some (.slice avp n n) := LV.out.ca; have cbw179 : w179.cell? ⟨w4.heap.size, 0, none⟩ = some (.slice avq m m) := LV.out.cb; have zaw179 : w3.heap.size < w179.heap.size := LV.out.za; have zbw179 : w4.heap.size < w179.heap.size := LV.out.zb; have tok179 := trivial; clear hb)
        | (go_at_call 17; have _t := tok169; refine (quote_any key _ (by omega)).mono ?_; rintro e w171 ⟨rfl, hb⟩; have LV := Lib.hid ((LV.out.below hb)); have BC := Lib.hid (BC.out.trans (Below.mono hb BC.out.size)); have caw171 : w171.cell? ⟨w3.heap.size, 0, none⟩ = some (.slice avp n n) := LV.out.ca; have cbw171 : w171.cell? ⟨w4.heap.size, 0, none⟩ = some (.slice avq m m) := LV.out.cb; have zaw171 : w3.heap.size < w171.heap.size := LV.out.za; have zbw171 : w4.heap.size < w171.heap.size := LV.out.zb; have tok171 := trivial; clear hb)
        | (at_builtin; have _t := tok158; refine app_wp rfl (.tmp 158) (.tmp 168) rfl rfl rfl (P158.out.below (((Below.refl _ w158).alloc (Nat.le_refl _) _).alloc (by simp) _)) (three_lit w158 key n (.slice (some ⟨g1, 0, none⟩) 1 1) [n - 1] (row_below LV.out.k1 H158.out)) (by simp) (by have := H158.out.size; simp; omega) (by simp only [List.length_append, List.length_map, List.length_nil, List.length_cons]; have := HM.out; have := HN.out; omega) ?_; intro v169 w169 hP hB; have hb : Below w156.heap.size w156 w169 := ((H158.out.alloc H158.out.size _).alloc (by have := H158.out.size; simp; omega) _).trans hB; have R16 := Lib.hid (R16.out.below hb); have LV := Lib.hid ((LV.out.below hb).add hP); have BC := Lib.hid (BC.out.trans (Below.mono hb BC.out.size)); have caw169 : w169.cell? ⟨w3.heap.size, 0, none⟩ = some (.slice avp n n) := LV.out.ca; have cbw169 : w169.cell? ⟨w4.heap.size, 0, none⟩ = some (.slice avq m m) := LV.out.cb; have zaw169 : w3.heap.size < w169.heap.size := LV.out.za; have zbw169 : w4.heap.size < w169.heap.size := LV.out.zb; have tok169 := trivial; clear hP hB hb)
        | (go_at_call 15; have _t := tok156; (with_reducible refine (S0.out _ BC.out).mono ?_); rintro e w158 ⟨v158, k158, rfl, hP, hB⟩; have P158 := Lib.hid hP; have H158 := Lib.hid hB; have tok158 := trivial; clear hP hB)
        | (at_builtin; have _t := tok151; refine app_wp rfl (.tmp 151) (.tmp 155) rfl rfl rfl (P151.out.below ((Below.refl _ w151).alloc (Nat.le_refl _) _)) (row_lit1 w151 _ ⟨9, key.data.toList, 0, [n - 1]⟩ (.slice (some ⟨g1, 0, none⟩) 1 1) (by simp [partCells]) (row_below LV.out.k1 H151.out)) (by simp) (by have := H151.out.size; simp; omega) (by simp only [List.length_append, List.length_map, List.length_nil, List.length_cons]; have := HM.out; have := HN.out; omega) ?_; intro v156 w156 hP hB; have hb : Below w149.heap.size w149 w156 := (H151.out.alloc H151.out.size _).trans hB; have R16 := Lib.hid (R16.out.below hb); have LV := Lib.hid ((LV.out.below hb).add hP); have BC := Lib.hid (BC.out.trans (Below.mono hb BC.out.size)); have caw156 : w156.cell? ⟨w3.heap.size, 0, none⟩ = some (.slice avp n n) := LV.out.ca; have cbw156 : w156.cell? ⟨w4.heap.size, 0, none⟩ = some (.slice avq m m) := LV.out.cb; have zaw156 : w3.heap.size < w156.heap.size := LV.out.za; have zbw156 : w4.heap.size < w156.heap.size := LV.out.zb; have tok156 := trivial; clear hP hB hb)
        | (go_at_call 15; have _t := tok149; (with_reducible refine (S0.out _ BC.out).mono ?_); rintro e w151 ⟨v151, k151, rfl, hP, hB⟩; have P151 := Lib.hid hP; have H151 := Lib.hid hB; have tok151 := trivial; clear hP hB)
        | (at_builtin; have _t := tok144; refine app_wp rfl (.tmp 144) (.tmp 148) rfl rfl rfl (P144.out.below ((Below.refl _ w144).alloc (Nat.le_refl _) _)) (row_lit1 w144 _ ⟨8, key.data.toList, 0, [n - 1]⟩ (.slice (some ⟨g1, 0, none⟩) 1 1) (by simp [partCells]) (row_below LV.out.k1 H144.out)) (by simp) (by have := H144.out.size; simp; omega) (by simp only [List.length_append, List.length_map, List.length_nil, List.length_cons]; have := HM.out; have := HN.out; omega) ?_; intro v149 w149 hP hB; have hb : Below w137.heap.size w137 w149 := (H144.out.alloc H144.out.size _).trans hB; have R16 := Lib.hid (R16.out.below hb); have LV := Lib.hid ((LV.out.below hb).add hP); have BC := Lib.hid (BC.out.trans (Below.mono hb BC.out.size)); have caw149 : w149.cell? ⟨w3.heap.size, 0, none⟩ = some (.slice avp n n) := LV.out.ca; have cbw149 : w149.cell? ⟨w4.heap.size, 0, none⟩ = some (.slice avq m m) := LV.out.cb; have zaw149 : w3.heap.size < w149.heap.size := LV.out.za; have zbw149 : w4.heap.size < w149.heap.size := LV.out.zb; have tok149 := trivial; clear hP hB hb)
        | (go_at_call 15; have _t := tok137; (with_reducible refine (S0.out _ BC.out).mono ?_); rintro e w144 ⟨v144, k144, rfl, hP, hB⟩; have P144 := Lib.hid hP; have H144 := Lib.hid hB; have tok144 := trivial; clear hP hB)
        | (go_at_call 16; have _t := tok136; refine (RP.out _ v136 (HL.out.below (LV.out.below H136.out).b) P136.out.pin).mono ?_; rintro e w137 ⟨rfl, hB⟩; have hb : Below w128.heap.size w128 w137 := H136.out.trans (hB.mono H136.out.size); have R16 := Lib.hid (R16.out.below hb); have LV := Lib.hid ((LV.out.below hb)); have BC := Lib.hid (BC.out.trans (Below.mono hb BC.out.size)); have caw137 : w137.cell? ⟨w3.heap.size, 0, none⟩ = some (.slice avp n n) := LV.out.ca; have cbw137 : w137.cell? ⟨w4.heap.size, 0, none⟩ = some (.slice avq m m) := LV.out.cb; have zaw137 : w3.heap.size < w137.heap.size := LV.out.za; have zbw137 : w4.heap.size < w137.heap.size := LV.out.zb; have tok137 := trivial; clear hb hB)
        | (go_at_call 15; have _t := tok128; (with_reducible refine (S0.out _ BC.out).mono ?_); rintro e w136 ⟨v136, k136, rfl, hP, hB⟩; have P136 := Lib.hid hP; have H136 := Lib.hid hB; have tok136 := trivial; clear hP hB)
        | (go_at_call 16; have _t := tok120; refine (RN.out _ v102 (HL.out.below LV.out.b) (LV.out.pin (List.Mem.head _))).mono ?_; rintro e w128 ⟨rfl, hb⟩; have R16 := Lib.hid (R16.out.below hb); have LV := Lib.hid ((LV.out.below hb)); have BC := Lib.hid (BC.out.trans (Below.mono hb BC.out.size)); have caw128 : w128.cell? ⟨w3.heap.size, 0, none⟩ = some (.slice avp n n) := LV.out.ca; have cbw128 : w128.cell? ⟨w4.heap.size, 0, none⟩ = some (.slice avq m m) := LV.out.cb; have zaw128 : w3.heap.size < w128.heap.size := LV.out.za; have zbw128 : w4.heap.size < w128.heap.size := LV.out.zb; have tok128 := trivial; clear hb)
        | (go_at_call 16; have _t := tok110; refine (RO.out _ v96 (HL.out.below LV.out.b) (LV.out.pin (List.Mem.tail _ (List.Mem.head _)))).mono ?_; rintro e w120 ⟨rfl, hb⟩; have R16 := Lib.hid (R16.out.below hb); have LV := Lib.hid ((LV.out.below hb)); have BC := Lib.hid (BC.out.trans (Below.mono hb BC.out.size)); have caw120 : w120.cell? ⟨w3.heap.size, 0, none⟩ = some (.slice avp n n) := LV.out.ca; have cbw120 : w120.cell? ⟨w4.heap.size, 0, none⟩ = some (.slice avq m m) := LV.out.cb; have zaw120 : w3.heap.size < w120.heap.size := LV.out.za; have zbw120 : w4.heap.size < w120.heap.size := LV.out.zb; have tok120 := trivial; clear hb)
        | (go_at_call 16; have _t := tok102; refine (RA.out _ v89 (HL.out.below LV.out.b) (LV.out.pin (List.Mem.tail _ (List.Mem.tail _ (List.Mem.head _))))).mono ?_; rintro e w110 ⟨rfl, hb⟩; have R16 := Lib.hid (R16.out.below hb); have LV := Lib.hid ((LV.out.below hb)); have BC := Lib.hid (BC.out.trans (Below.mono hb BC.out.size)); have caw110 : w110.cell? ⟨w3.heap.size, 0, none⟩ = some (.slice avp n n) := LV.out.ca; have cbw110 : w110.cell? ⟨w4.heap.size, 0, none⟩ = some (.slice avq m m) := LV.out.cb; have zaw110 : w3.heap.size < w110.heap.size := LV.out.za; have zbw110 : w4.heap.size < w110.heap.size := LV.out.zb; have tok110 := trivial; clear hb)
        | (at_builtin; have _t := tok98; refine app_wp rfl (.tmp 98) (.tmp 101) rfl rfl rfl (P98.out.below ((Below.refl _ w98).alloc (Nat.le_refl _) _)) (row_lit1 w98 _ ⟨3, [], 0, [n - 1]⟩ (.slice (some ⟨g1, 0, none⟩) 1 1) rfl (row_below LV.out.k1 H98.out)) (by simp) (by have := H98.out.size; simp; omega) (by simp only [List.length_append, List.length_map, List.length_nil, List.length_cons]; have := HM.out; have := HN.out; omega) ?_; intro v102 w102 hP hB; have hb : Below w96.heap.size w96 w102 := (H98.out.alloc H98.out.size _).trans hB; have R16 := Lib.hid (R16.out.below hb); have LV := Lib.hid ((LV.out.below hb).add hP); have BC := Lib.hid (BC.out.trans (Below.mono hb BC.out.size)); have caw102 : w102.cell? ⟨w3.heap.size, 0, none⟩ = some (.slice avp n n) := LV.out.ca; have cbw102 : w102.cell? ⟨w4.heap.size, 0, none⟩ = some (.slice avq m m) := LV.out.cb; have zaw102 : w3.heap.size < w102.heap.size := LV.out.za; have zbw102 : w4.heap.size < w102.heap.size := LV.out.zb; have tok102 := trivial; clear hP hB hb)
        | (go_at_call 15; have _t := tok96; (with_reducible refine (S0.out _ BC.out).mono ?_); rintro e w98 ⟨v98, k98, rfl, hP, hB⟩; have P98 := Lib.hid hP; have H98 := Lib.hid hB; have tok98 := trivial; clear hP hB)
        | (at_builtin; have _t := tok92; refine app_wp rfl (.tmp 92) (.tmp 95) rfl rfl rfl (P92.out.below ((Below.refl _ w92).alloc (Nat.le_refl _) _)) (row_lit1 w92 _ ⟨5, [], 0, [n - 1, n + (m - 1)]⟩ (.slice (some ⟨g2, 0, none⟩) 2 2) rfl (row_below LV.out.k2 H92.out)) (by simp) (by have := H92.out.size; simp; omega) (by simp only [List.length_append, List.length_map, List.length_nil, List.length_cons]; have := HM.out; have := HN.out; omega) ?_; intro v96 w96 hP hB; have hb : Below w89.heap.size w89 w96 := (H92.out.alloc H92.out.size _).trans hB; have R16 := Lib.hid (R16.out.below hb); have LV := Lib.hid ((LV.out.below hb).add hP); have BC := Lib.hid (BC.out.trans (Below.mono hb BC.out.size)); have caw96 : w96.cell? ⟨w3.heap.size, 0, none⟩ = some (.slice avp n n) := LV.out.ca; have cbw96 : w96.cell? ⟨w4.heap.size, 0, none⟩ = some (.slice avq m m) := LV.out.cb; have zaw96 : w3.heap.size < w96.heap.size := LV.out.za; have zbw96 : w4.heap.size < w96.heap.size := LV.out.zb; have tok96 := trivial; clear hP hB hb)
        | (at_builtin; have _t := tok89; refine app_wp rfl (.tmp 90) (.tmp 91) rfl rfl rfl (row_new w89) (R16.out.below ((Below.refl _ w89).alloc (Nat.le_refl _) _)) (by rw [List.length_append, List.length_map]; have := HM.out; have := HN.out; omega) (by simp) (by simp only [List.length_nil]; rw [List.length_append, List.length_map]; have := HM.out; have := HN.out; omega) ?_; intro v92 w92 hP hB; have P92 := Lib.hid hP; have H92 : Hid (Below w89.heap.size w89 w92) := Lib.hid (((Below.refl _ w89).alloc (Nat.le_refl _) _).trans hB); have tok92 := trivial; clear hP hB)
        | (at_builtin; have _t := tok85; refine app_wp rfl (.tmp 85) (.tmp 88) rfl rfl rfl (P85.out.below ((Below.refl _ w85).alloc (Nat.le_refl _) _)) (row_lit1 w85 _ ⟨4, [], 0, [n - 1, n + (m - 1)]⟩ (.slice (some ⟨g2, 0, none⟩) 2 2) rfl (row_below LV.out.k2 H85.out)) (by simp) (by have := H85.out.size; simp; omega) (by simp only [List.length_append, List.length_map, List.length_nil, List.length_cons]; have := HM.out; have := HN.out; omega) ?_; intro v89 w89 hP hB; have hb : Below w9.heap.size w9 w89 := (H85.out.alloc H85.out.size _).trans hB; have R16 := Lib.hid (R16.out.below hb); have LV := Lib.hid ((LV.out.below hb).add hP); have BC := Lib.hid (BC.out.trans (Below.mono hb BC.out.size)); have caw89 : w89.cell? ⟨w3.heap.size, 0, none⟩ = some (.slice avp n n) := LV.out.ca; have cbw89 : w89.cell? ⟨w4.heap.size, 0, none⟩ = some (.slice avq m m) := LV.out.cb; have zaw89 : w3.heap.size < w89.heap.size := LV.out.za; have zbw89 : w4.heap.size < w89.heap.size := LV.out.zb; have tok89 := trivial; clear hP hB hb)
        | (at_builtin; refine app_wp rfl (.tmp 83) (.tmp 84) rfl rfl rfl (row_new w9) (R16.out.below ((Below.refl _ w9).alloc (Nat.le_refl _) _)) (by rw [List.length_append, List.length_map]; have := HM.out; have := HN.out; omega) (by simp) (by simp only [List.length_nil]; rw [List.length_append, List.length_map]; have := HM.out; have := HN.out; omega) ?_; intro v85 w85 hP hB; have P85 := Lib.hid hP; have H85 : Hid (Below w9.heap.size w9 w85) := Lib.hid (((Below.refl _ w9).alloc (Nat.le_refl _) _).trans hB); have tok85 := trivial; clear hP hB))
        go_ret
        exact ⟨rfl, LV.out.b⟩
theorem parseJoins_any (s t key : ByteArray) (w : World) (hs : s.size ≤ 140737488355328) (ht : t.size ≤ 140737488355328) (hk : key.size ≤ 140737488355328) (hL : LW w) :
    Calls Tryd.prog 6 #[.string s, .string t, .string key] w fun e w' => e = .returned (.bool true) ∧ Below w.heap.size w w' := by
  cases hr : parseL s.data.toList with
  | error f => exact joins_err1 s t key w hs ht hL f hr
  | ok p =>
    obtain ⟨ps, offs⟩ := p
    cases hr2 : parseL t.data.toList with
    | error f => exact joins_err2 s t key w hs ht hL ps offs f hr hr2
    | ok q =>
      obtain ⟨qs, offs2⟩ := q
      exact joins_ok s t key w hs ht hk hL ps qs offs offs2 hr hr2

end Go.Proofs.YtghhnnbbjlipcaaDoor.X
