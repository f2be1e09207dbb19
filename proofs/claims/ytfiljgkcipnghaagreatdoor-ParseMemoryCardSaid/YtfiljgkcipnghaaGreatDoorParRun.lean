/-
  The walk of Parse: what it defers.
  The walk of Parse.
  The walk of Parse behind its scan.
  The walk of Parse behind its scan, joined.
-/
import Derived.Test.YtfiljgkcipnghaaGreatDoorParFn
import Derived.Recover
import Derived.Laws.Pointers
import Derived.Test.YtfiljgkcipnghaaGreatDoorLexPlain
import Derived.Deep.RegionWith
set_option linter.unusedVariables false
set_option linter.unusedSimpArgs false
namespace Go.Proofs.YtfiljgkcipnghaaGreatDoor.X
open Go.RowKit
set_option maxHeartbeats 4000000 in
set_option maxRecDepth 100000 in
theorem catch_idle (a b c : Addr) (w : World) :
    CallsD Tryz.prog 27 #[.pointer (some a), .pointer (some b), .pointer (some c)] .returning w fun e u' w' => e = .returned (.tuple #[]) ∧ u' = .returning ∧ w' = w := by
  refine callsD_of_wpS Tryz.func27 rfl fun c₀ cs hu => ?_
  apply wpS_seq
  apply wpS_region
  simp [wpOpsS, go_sem, recoverD, hu, Tryz.ntmps27, Exit.thenS]
  apply wpS_seq
  apply wpS_region
  simp [wpOpsS, go_sem, Exit.thenS]
  refine wpS_cond (t := false) (by simp [Act.eval, Array.replicate]) ?_
  simp only [Bool.false_eq_true, if_false]
  refine wpS_of_wp (wp_skip ?_)
  cases c₀
  simp_all [bodyPostS, results, Tryz.results27]
theorem assert_failure (x y : Value) (w : World) : (Instr.typeAssert (Value.iface 62 (.agg #[x, y])) 20 62 true).run Tryz.prog w = .ok (.tuple #[.agg #[x, y], .bool true]) w := by kernel_rfl
/-- The results stand as the deferred call lays them. -/
structure Caught (a b c : Nat) (code at_ : Int) (w w' : World) : Prop where
  kept : ∀ base, base ≤ a → base ≤ b → base ≤ c → base ≤ w.heap.size → Below base w w'
  ca : w'.cell? ⟨a, 0, none⟩ = some (.slice none 0 0)
  cb : w'.cell? ⟨b, 0, none⟩ = some (.slice none 0 0)
  cc : w'.cell? ⟨c, 0, none⟩ = some (.iface 64 (.pointer (some ⟨w.heap.size + 1, 0, none⟩)))
  obj : w'.heap[w.heap.size + 1]? = some (faultObj code at_)
set_option maxHeartbeats 4000000 in
set_option maxRecDepth 100000 in
theorem catch_panicking (a b c : Nat) (older : List PanicEntry) (code at_ : Int) (w : World) (x y z : Value) (ha : w.cell? ⟨a, 0, none⟩ = some x) (hb : w.cell? ⟨b, 0, none⟩ = some y) (hc : w.cell? ⟨c, 0, none⟩ = some z)
    (fa : w.frozen? ⟨a, 0, none⟩ = false) (fb : w.frozen? ⟨b, 0, none⟩ = false) (fc : w.frozen? ⟨c, 0, none⟩ = false) (la : a < w.heap.size) (lb : b < w.heap.size) (lc : c < w.heap.size) (hab : a ≠ b) (hac : a ≠ c) (hbc : b ≠ c) :
    CallsD Tryz.prog 27 #[.pointer (some ⟨a, 0, none⟩), .pointer (some ⟨b, 0, none⟩), .pointer (some ⟨c, 0, none⟩)] (.panicking ({ v := .iface 62 (.agg #[.int .i64 code, .int .i64 at_]), recovered := false } :: older)) w fun e u' w' =>
      e = .returned (.tuple #[]) ∧ u' = .panicking ({ v := .iface 62 (.agg #[.int .i64 code, .int .i64 at_]), recovered := true } :: older) ∧ Caught a b c code at_ w w' := by
  refine callsD_of_wpS Tryz.func27 rfl fun c₀ cs hu => ?_
  apply wpS_seq
  apply wpS_region
  simp [wpOpsS, go_sem, recoverD, hu, Tryz.ntmps27, Exit.thenS]
  simp only [List.size_toArray, List.length_cons, List.length_nil, Nat.reduceAdd, Nat.reduceSub, Array.replicate_succ, Array.replicate_zero, List.push_toArray, List.append_toArray, List.nil_append, List.cons_append, List.setIfInBounds_toArray, List.set_cons_zero, List.set_cons_succ]
  have hta := assert_failure
  refine wpS_of_wp ?_
  refine (fun (key : ∀ Q : Exit → Act → World → Prop, (∀ a' w', a'.defers = [] → Caught a b c code at_ w w' → Q .normal a' w') → Code.wp Tryz.prog _ Q _ w) => key _ ?_) ?_
  · intro a' b0 hd hC
    cases c₀
    simp_all [bodyPostS, results, Tryz.results27]
  · intro Q hQ
    go_wp2
    go_region
    all_goals go_wp2
    all_goals
      refine hQ _ _ rfl ⟨fun base h1 h2 h3 h4 => ?_, ?_, ?_, ?_, ?_⟩
      · exact ((((((Below.refl base w).grown (set_grown w a 0 _) h4 (fun k e => by cases e; exact h1)).grown (set_grown _ b 0 _) (by simpa using h4) (fun k e => by cases e; exact h2)).grown (set_grown _ c 0 _) (by simpa using h4) (fun k e => by cases e; exact h3)).alloc (by simpa using h4) _).alloc (by simp; omega) _).drew
      · simp [go_sem, ha, hb, hc, la, lb, lc, hab, hac, hbc, Ne.symm hab, Ne.symm hac, Ne.symm hbc, fa, fb, fc]
      · simp [go_sem, ha, hb, hc, la, lb, lc, hab, hac, hbc, Ne.symm hab, Ne.symm hac, Ne.symm hbc, fa, fb, fc]
      · simp [go_sem, ha, hb, hc, la, lb, lc, hab, hac, hbc, Ne.symm hab, Ne.symm hac, Ne.symm hbc, fa, fb, fc]
      · have h := Go.heap_alloc_new ((((w.setCell ⟨a, 0, none⟩ (.slice none 0 0)).setCell ⟨b, 0, none⟩ (.slice none 0 0)).setCell ⟨c, 0, none⟩ (.iface 64 (.pointer (some ⟨w.heap.size + 1, 0, none⟩)))).alloc (.cells #[.int .i64 code, .int .i64 at_] 62)) (faultObj code at_)
        have e : ((((w.setCell ⟨a, 0, none⟩ (.slice none 0 0)).setCell ⟨b, 0, none⟩ (.slice none 0 0)).setCell ⟨c, 0, none⟩ (.iface 64 (.pointer (some ⟨w.heap.size + 1, 0, none⟩)))).alloc (.cells #[.int .i64 code, .int .i64 at_] 62)).heap.size = w.heap.size + 1 := by simp
        rw [e] at h
        exact h

end Go.Proofs.YtfiljgkcipnghaaGreatDoor.X
set_option linter.unusedVariables false
set_option linter.unusedSimpArgs false
namespace Go.Proofs.YtfiljgkcipnghaaGreatDoor.X
open Go.RowKit
def clipV : Value → Value
  | .slice p n _ => .slice p n n
  | v => v
set_option maxHeartbeats 4000000 in
set_option maxRecDepth 100000 in
theorem clip_parts {w w2 : World} {base e size n : Nat} {v : Value} {xs : List Value} (h : w2.ownsRow base e size v n xs) (hn : n ≤ 1000000) : Calls Tryz.prog 31 #[v] w fun e w' => e = .returned (clipV v) ∧ w' = w := by
  rcases h.2 with ⟨rfl, rfl⟩ | ⟨g, cap, cur, rfl, _, _, hc, hm, _⟩
  · go_enter Tryz.func31, Tryz.ntmps31
    go_wp2
    go_ret
    exact ⟨rfl, rfl⟩
  · simp only [maxLen] at hm
    clear h
    go_enter Tryz.func31, Tryz.ntmps31
    go_wp2
    go_ret
    exact ⟨rfl, rfl⟩
set_option maxHeartbeats 4000000 in
set_option maxRecDepth 100000 in
theorem clip_ints {w w2 : World} {base e size n : Nat} {v : Value} {xs : List Value} (h : w2.ownsRow base e size v n xs) (hn : n ≤ 1000000) : Calls Tryz.prog 32 #[v] w fun e w' => e = .returned (clipV v) ∧ w' = w := by
  rcases h.2 with ⟨rfl, rfl⟩ | ⟨g, cap, cur, rfl, _, _, hc, hm, _⟩
  · go_enter Tryz.func32, Tryz.ntmps32
    go_wp2
    go_ret
    exact ⟨rfl, rfl⟩
  · simp only [maxLen] at hm
    clear h
    go_enter Tryz.func32, Tryz.ntmps32
    go_wp2
    go_ret
    exact ⟨rfl, rfl⟩
theorem tok_chain {l : Bs} {i : Nat} {ts : List Tk} (h : Chain l i ts) : ts.length + i ≤ l.length + 1 ∧ 0 < ts.length ∧ ∀ j, j < ts.length → ((ts.getD j endT).kind = 0 ↔ j + 1 = ts.length) := by
  induction h with
  | fin i hi hs => exact ⟨by simp; omega, by simp, fun j hj => by simp at hj; subst hj; simp⟩
  | cons i t ts hi ht hk ha hl he hc ih =>
    obtain ⟨h1, h2, h3⟩ := ih
    have hsg := skipN_ge l i
    refine ⟨by simp; omega, by simp, fun j hj => ?_⟩
    cases j with
    | zero => exact ⟨fun e => absurd e hk, fun e => by simp only [List.length_cons] at e; omega⟩
    | succ j =>
      have := h3 j (by simpa using hj)
      simp only [List.getD_cons_succ, List.length_cons]
      rw [this]; omega
theorem scan_TOK {l : Bs} {ts : List Tk} (h : scanL l = (ts, none)) : TOK ts ∧ 0 < ts.length := by
  obtain ⟨h1, h2⟩ := prefix_chain h
  obtain ⟨h3, h4, h5⟩ := tok_chain h2
  exact ⟨⟨by omega, h5⟩, h4⟩
/-- A row that lies somewhere behind base. -/
structure RowIn (w : World) (base e size : Nat) (v : Value) (n : Nat) (xs : List Value) : Prop where
  len : xs.length = n * size
  at_ : (v = .slice none 0 0 ∧ n = 0) ∨ ∃ g cur, v = .slice (some ⟨g, 0, none⟩) n n ∧ base ≤ g ∧ w.heap[g]? = some (.cells cur e (0, 0)) ∧ n * size ≤ cur.size ∧ cur.toList.take (n * size) = xs
theorem RowIn.below {w w' : World} {base e size n : Nat} {v : Value} {xs : List Value} (h : RowIn w base e size v n xs) (hb : Below w.heap.size w w') : RowIn w' base e size v n xs := by
  refine ⟨h.len, ?_⟩
  rcases h.at_ with h1 | ⟨g, cur, h1, h2, h3, h4⟩
  · exact .inl h1
  · exact .inr ⟨g, cur, h1, h2, (hb.block g (Array.getElem?_eq_some_iff.1 h3).1).trans h3, h4⟩
theorem RowIn.clip {w : World} {base e size n : Nat} {v : Value} {xs : List Value} (h : w.ownsRow base e size v n xs) {base' : Nat} (hb : base' ≤ base) : RowIn w base' e size (clipV v) n xs := by
  refine ⟨h.1, ?_⟩
  rcases h.2 with ⟨rfl, h0⟩ | ⟨g, cap, cur, rfl, h1, h2, h3, h4, h5, h6⟩
  · exact .inl ⟨rfl, h0⟩
  · exact .inr ⟨g, cur, rfl, Nat.le_trans hb h1, h2, by rw [h5]; exact Nat.mul_le_mul_right _ h3, h6⟩
/-- A tree and its offsets lie there, in memory of their own. -/
structure TreeAt (w : World) (base : Nat) (vp vo : Value) (kv : List Value) (ps : List PD) (offs : List Nat) : Prop where
  parts : RowIn w base 49 4 vp ps.length (partRow ps kv)
  offs : RowIn w base 3 1 vo offs.length (offs.map fun i => Value.int .i64 (i : Nat))
  klen : kv.length = ps.length
  kids : ∀ i (h : i < ps.length), kidRow w base (kv.getD i undef) ps[i].kids
  apart : (vp.ownBlock :: vo.ownBlock :: kv.map Value.ownBlock).Pairwise fun a b => a = none ∨ a ≠ b
theorem TreeAt.below {w w' : World} {base : Nat} {vp vo : Value} {kv : List Value} {ps : List PD} {offs : List Nat} (h : TreeAt w base vp vo kv ps offs) (hb : Below w.heap.size w w') : TreeAt w' base vp vo kv ps offs :=
  ⟨h.parts.below hb, h.offs.below hb, h.klen, fun i hi => row_below (h.kids i hi) hb, h.apart⟩
/-- What Parse answers. -/
def ParseAns (w : World) (r : Except PF (List PD × List Nat)) (e : Ending) (w' : World) : Prop := Below w.heap.size w w' ∧ match r with
  | .ok (ps, offs) => ∃ vp vo kv, e = .returned (.tuple #[.agg #[vp], vo, .nilIface]) ∧ TreeAt w' w.heap.size vp vo kv ps offs
  | .error f => ∃ b, e = .returned (.tuple #[.agg #[.slice none 0 0], .slice none 0 0, .iface 64 (.pointer (some ⟨b, 0, none⟩))]) ∧ w.heap.size ≤ b ∧ w'.heap[b]? = some (faultObj f.1 f.2)
theorem clip_own (v : Value) : (clipV v).ownBlock = v.ownBlock := by
  cases v with
  | slice a n c => cases a <;> rfl
  | _ => rfl
/-- The three results in their variables. -/
structure Nm (g : Nat) (W : World) (a b c : Value) : Prop where
  ha : Boxed W g 25 a
  hb : Boxed W (g + 1) 26 b
  hc : Boxed W (g + 1 + 1) 28 c
theorem Nm.new (w : World) : Nm w.heap.size (((w.alloc (.cells #[.slice none 0 0] 25)).alloc (.cells #[.slice none 0 0] 26)).alloc (.cells #[.nilIface] 28)) (.slice none 0 0) (.slice none 0 0) .nilIface := by
  refine ⟨?_, ?_, ?_⟩
  · exact (Below.heap_alloc _ _ _ (by simp; omega)).trans ((Below.heap_alloc _ _ _ (by simp)).trans (Go.heap_alloc_new w _))
  · have h := Go.heap_alloc_new (w.alloc (.cells #[.slice none 0 0] 25)) (.cells #[.slice none 0 0] 26)
    rw [World.size_alloc] at h
    exact (Below.heap_alloc _ _ _ (by simp)).trans h
  · have h := Go.heap_alloc_new ((w.alloc (.cells #[.slice none 0 0] 25)).alloc (.cells #[.slice none 0 0] 26)) (.cells #[.nilIface] 28)
    rw [World.size_alloc, World.size_alloc] at h
    exact h
theorem Nm.below {g : Nat} {W W' : World} {a b c : Value} (h : Nm g W a b c) (hb : Below W.heap.size W W') : Nm g W' a b c :=
  ⟨(hb.block _ h.ha.lt).trans h.ha, (hb.block _ h.hb.lt).trans h.hb, (hb.block _ h.hc.lt).trans h.hc⟩
theorem Nm.facts {g : Nat} {W : World} {a b c : Value} (h : Nm g W a b c) : W.cell? ⟨g, 0, none⟩ = some a ∧ W.cell? ⟨g + 1, 0, none⟩ = some b ∧ W.cell? ⟨g + 1 + 1, 0, none⟩ = some c ∧
    W.frozen? ⟨g, 0, none⟩ = false ∧ W.frozen? ⟨g + 1, 0, none⟩ = false ∧ W.frozen? ⟨g + 1 + 1, 0, none⟩ = false ∧ g + 1 + 1 < W.heap.size :=
  ⟨h.ha.cell, h.hb.cell, h.hc.cell, h.ha.frozen, h.hb.frozen, h.hc.frozen, h.hc.lt⟩
theorem results3 (tmps : Array Value) (g : Nat) (W : World) (a b c : Value) (h2 : tmps[2]?.getD undef = .pointer (some ⟨g, 0, none⟩)) (h3 : tmps[3]?.getD undef = .pointer (some ⟨g + 1, 0, none⟩)) (h4 : tmps[4]?.getD undef = .pointer (some ⟨g + 1 + 1, 0, none⟩))
    (ca : W.cell? ⟨g, 0, none⟩ = some a) (cb : W.cell? ⟨g + 1, 0, none⟩ = some b) (cc : W.cell? ⟨g + 1 + 1, 0, none⟩ = some c) : (results Tryz.f10 tmps).run Tryz.prog W = .ok (.tuple #[.agg #[a], b, c]) W := by
  have hr : Tryz.f10.results = #[.cell 2 25, .cell 3 26, .cell 4 28] := rfl
  simp [results, hr, h2, h3, h4, go_sem, ca, cb, cc]
theorem below_poke {base : Nat} {w W : World} (h : Below base w W) (hb : base ≤ w.heap.size) {g : Nat} (hg : base ≤ g) (v : Value) : Below base w (W.setCell ⟨g, 0, none⟩ v) :=
  h.grown (set_grown W g 0 v) (Nat.le_trans hb h.size) (fun k e => by cases e; exact hg)
theorem heap_poke {W : World} {b : Nat} {o : Obj} (h : W.heap[b]? = some o) {g : Nat} (hg : b ≠ g) (v : Value) : (W.setCell ⟨g, 0, none⟩ v).heap[b]? = some o := (Below.heap_setCell _ _ _ b hg).trans h
set_option maxHeartbeats 4000000 in
set_option maxRecDepth 100000 in
theorem parse_scan (s : ByteArray) (w : World) (hs : s.size ≤ 9223372036854775807) (hL : LW w) (f : Int × Nat) (ts : List Tk) (h : scanL s.data.toList = (ts, some f)) :
    Calls Tryz.prog 10 #[.string s] w (ParseAns w (.error f)) := by
  have SC : Hid (∀ w2, Below w.heap.size w w2 → Calls Tryz.prog 26 #[.string s] w2 (ScanAns w2 (ts, some f))) := Lib.hid (fun w2 hb => h ▸ scan_any s w2 hs (hL.below hb))
  have hb0 : Hid (Below w.heap.size w (((w.alloc (.cells #[.slice none 0 0] 25)).alloc (.cells #[.slice none 0 0] 26)).alloc (.cells #[.nilIface] 28))) := Lib.hid ((((Below.refl _ w).alloc (Nat.le_refl _) _).alloc (by simp) _).alloc (by simp; omega) _)
  have hz0 : (((w.alloc (.cells #[.slice none 0 0] 25)).alloc (.cells #[.slice none 0 0] 26)).alloc (.cells #[.nilIface] 28)).heap.size = w.heap.size + 3 := by simp
  have NM := Lib.hid (Nm.new w)
  clear h hL
  go_enter_defers Tryz.func10, Tryz.ntmps10
  go_wp2_with (go_at_call 26; refine (SC.out _ hb0.out).mono ?_; rintro e w2 ⟨hB2, b, rfl, hb1, hb2⟩; have N2 := Lib.hid (NM.out.below hB2); obtain ⟨ca, cb, cc, fa, fb, fc, hz⟩ := N2.out.facts; have HB2 := Lib.hid hB2; have HBB := Lib.hid (And.intro hb1 hb2); clear hB2 hb1 hb2)
  go_region
  all_goals go_wp2
  all_goals
    have hb := HBB.out.1
    rw [hz0] at hb
    have hB := hb0.out.trans (HB2.out.mono (by rw [hz0]; omega))
    refine ⟨_, results3 _ w.heap.size _ (.slice none 0 0) (.slice none 0 0) (.iface 64 (.pointer (some ⟨b, 0, none⟩))) rfl rfl rfl ?_ ?_ ?_, ?_, b, rfl, by omega, ?_⟩
    · simp [go_sem, ca, cb, cc, fa, fb, fc]
    · simp [go_sem, ca, cb, cc, fa, fb, fc]
    · simp [go_sem, ca, cb, cc, fa, fb, fc]
    · exact (below_poke (below_poke (below_poke (below_poke hB (Nat.le_refl _) (by omega) _) (Nat.le_refl _) (by omega) _) (Nat.le_refl _) (by omega) _) (Nat.le_refl _) (by omega) _).drew
    · exact heap_poke (heap_poke (heap_poke (heap_poke HBB.out.2 (by omega) _) (by omega) _) (by omega) _) (by omega) _

end Go.Proofs.YtfiljgkcipnghaaGreatDoor.X
set_option linter.unusedVariables false
set_option linter.unusedSimpArgs false
namespace Go.Proofs.YtfiljgkcipnghaaGreatDoor.X
open Go.RowKit
theorem Nm.mono {g base : Nat} {W W' : World} {a b c : Value} (h : Nm g W a b c) (hb : Below base W W') (hg : g + 1 + 1 < base) : Nm g W' a b c :=
  ⟨(hb.block _ (by omega)).trans h.ha, (hb.block _ (by omega)).trans h.hb, (hb.block _ (by omega)).trans h.hc⟩
theorem Nm.setC {g : Nat} {W : World} {a b c : Value} (h : Nm g W a b c) (v : Value) : Nm g (W.setCell ⟨g + 1 + 1, 0, none⟩ v) a b v :=
  ⟨heap_poke h.ha (by omega) v, heap_poke h.hb (by omega) v, heap_setCell_same _ _ _ _ _ _ h.hc⟩
theorem RowIn.poke {w : World} {base e size n : Nat} {v : Value} {xs : List Value} (h : RowIn w base e size v n xs) {g : Nat} (hg : g < base) (x : Value) : RowIn (w.setCell ⟨g, 0, none⟩ x) base e size v n xs := by
  refine ⟨h.len, ?_⟩
  rcases h.at_ with h1 | ⟨k, cur, h1, h2, h3, h4⟩
  · exact .inl h1
  · exact .inr ⟨k, cur, h1, h2, heap_poke h3 (by omega) x, h4⟩
theorem RowIn.weak {w : World} {base base' e size n : Nat} {v : Value} {xs : List Value} (h : RowIn w base e size v n xs) (hb : base' ≤ base) : RowIn w base' e size v n xs := by
  refine ⟨h.len, ?_⟩
  rcases h.at_ with h1 | ⟨k, cur, h1, h2, h3, h4⟩
  · exact .inl h1
  · exact .inr ⟨k, cur, h1, Nat.le_trans hb h2, h3, h4⟩
theorem TreeAt.poke {w : World} {base : Nat} {vp vo : Value} {kv : List Value} {ps : List PD} {offs : List Nat} (h : TreeAt w base vp vo kv ps offs) {g : Nat} (hg : g < base) (x : Value) : TreeAt (w.setCell ⟨g, 0, none⟩ x) base vp vo kv ps offs :=
  ⟨h.parts.poke hg x, h.offs.poke hg x, h.klen, fun i hi => own_block (h.kids i hi) (fun k e => Below.heap_setCell _ _ _ k (by have := ((h.kids i hi).lt k e).1; simp only; omega)), h.apart⟩
theorem TreeAt.weak {w : World} {base base' : Nat} {vp vo : Value} {kv : List Value} {ps : List PD} {offs : List Nat} (h : TreeAt w base vp vo kv ps offs) (hb : base' ≤ base) : TreeAt w base' vp vo kv ps offs :=
  ⟨h.parts.weak hb, h.offs.weak hb, h.klen, fun i hi => own_weak (h.kids i hi) hb, h.apart⟩
theorem tree_clip {ts : List Tk} {B : Nat} {M : PM} {S : PS} {w : World} (h : PAt ts B M S w) : TreeAt w B (clipV M.vp) (clipV M.vo) M.kv S.parts (S.offs.map (placeT ts)) := by
  refine ⟨RowIn.clip h.parts (Nat.le_refl _), ?_, h.klen, h.kids, ?_⟩
  · have := RowIn.clip h.offs (Nat.le_refl B)
    rw [List.length_map, List.map_map]; exact this
  · rw [clip_own, clip_own]; exact (List.pairwise_cons.1 h.apart).2
theorem parser_new {ts : List Tk} {w2 : World} {base : Nat} {v : Value} (hv : TokSl w2 base v ts) (h0 : 0 < ts.length) {g : Nat} (hg : g < base) (x : Value) :
    PAt ts w2.heap.size ⟨w2.heap.size, v, .slice none 0 0, .slice none 0 0, []⟩ ⟨0, 0, [], []⟩ ((w2.setCell ⟨g, 0, none⟩ x).alloc (.cells #[v, .int .i64 0, .int .i64 0, .slice none 0 0, .slice none 0 0] 69)) := by
  have hz : (w2.setCell ⟨g, 0, none⟩ x).heap.size = w2.heap.size := by simp
  have hn := Go.heap_alloc_new (w2.setCell ⟨g, 0, none⟩ x) (.cells #[v, .int .i64 0, .int .i64 0, .slice none 0 0, .slice none 0 0] 69)
  rw [hz] at hn
  refine ⟨hn, ?_, fun k e => (hv.lt k e).2, Nat.le_refl _, ⟨rfl, .inl ⟨rfl, rfl⟩⟩, ⟨rfl, .inl ⟨rfl, rfl⟩⟩, rfl, fun i hi => absurd hi (Nat.not_lt_zero _), ?_, h0, Nat.le_refl _, Nat.le_refl _⟩
  · have h1 := (tokAt_of_own hv).stays (w' := w2.setCell ⟨g, 0, none⟩ x) (fun k e => Below.heap_setCell _ _ _ k (by have := (hv.lt k e).1; simp only; omega)) (by rw [hz]; exact Nat.le_refl _)
    exact h1.kept ((Below.refl _ _).alloc (Nat.le_refl _) _)
  · simp [blocksOf, Value.ownBlock]
theorem tok_form {ts : List Tk} {w2 : World} {base : Nat} {v : Value} (hv : TokSl w2 base v ts) (h0 : 0 < ts.length) : ∃ g cap, v = .slice (some ⟨g, 0, none⟩) ts.length cap := by
  rcases hv.2 with ⟨_, h⟩ | ⟨g, cap, cur, e, _⟩
  · omega
  · exact ⟨g, cap, e⟩
abbrev dfr (g : Nat) : Deferred := { target := .fn (.func 27) #[.pointer (some ⟨g, 0, none⟩), .pointer (some ⟨g + 1, 0, none⟩), .pointer (some ⟨g + 1 + 1, 0, none⟩)], args := #[] }
theorem caught_leaves (w w4 : World) (tmps : Array Value) (code : Int) (at_ : Nat) {a b c : Value} (h2 : tmps[2]?.getD undef = .pointer (some ⟨w.heap.size, 0, none⟩)) (h3 : tmps[3]?.getD undef = .pointer (some ⟨w.heap.size + 1, 0, none⟩)) (h4 : tmps[4]?.getD undef = .pointer (some ⟨w.heap.size + 1 + 1, 0, none⟩))
    (N : Nm w.heap.size w4 a b c) (hB : Below w.heap.size w w4) :
    Leaves Tryz.prog Tryz.f10 tmps (ParseAns w (.error (code, at_))) [dfr w.heap.size] (.panicking [{ v := .iface 62 (.agg #[.int .i64 code, .int .i64 (at_ : Nat)]), recovered := false }]) w4 := by
  obtain ⟨ca, cb, cc, fa, fb, fc, hz⟩ := N.facts
  refine leaves_cons (f := 27) (args := #[.pointer (some ⟨w.heap.size, 0, none⟩), .pointer (some ⟨w.heap.size + 1, 0, none⟩), .pointer (some ⟨w.heap.size + 1 + 1, 0, none⟩)]) (by simp) (by simp [go_sem]) ?_
  refine (catch_panicking w.heap.size (w.heap.size + 1) (w.heap.size + 1 + 1) [] code at_ w4 _ _ _ ca cb cc fa fb fc (by omega) (by omega) (by omega) (by omega) (by omega) (by omega)).mono ?_
  rintro e u' w5 ⟨rfl, rfl, hC⟩
  refine ⟨_, results3 tmps w.heap.size w5 _ _ _ h2 h3 h4 hC.ca hC.cb hC.cc, hB.trans (hC.kept _ (Nat.le_refl _) (by omega) (by omega) (by omega)), _, rfl, by omega, hC.obj⟩
theorem idle_leaves (w w4 : World) (tmps : Array Value) (r : Except PF (List PD × List Nat)) {a b c : Value} (h2 : tmps[2]?.getD undef = .pointer (some ⟨w.heap.size, 0, none⟩)) (h3 : tmps[3]?.getD undef = .pointer (some ⟨w.heap.size + 1, 0, none⟩)) (h4 : tmps[4]?.getD undef = .pointer (some ⟨w.heap.size + 1 + 1, 0, none⟩))
    (ca : w4.cell? ⟨w.heap.size, 0, none⟩ = some a) (cb : w4.cell? ⟨w.heap.size + 1, 0, none⟩ = some b) (cc : w4.cell? ⟨w.heap.size + 1 + 1, 0, none⟩ = some c) (hR : ParseAns w r (.returned (.tuple #[.agg #[a], b, c])) w4) :
    Leaves Tryz.prog Tryz.f10 tmps (ParseAns w r) [dfr w.heap.size] .returning w4 := by
  refine leaves_cons (f := 27) (args := #[.pointer (some ⟨w.heap.size, 0, none⟩), .pointer (some ⟨w.heap.size + 1, 0, none⟩), .pointer (some ⟨w.heap.size + 1 + 1, 0, none⟩)]) (by simp) (by simp [go_sem]) ?_
  refine (catch_idle ⟨w.heap.size, 0, none⟩ ⟨w.heap.size + 1, 0, none⟩ ⟨w.heap.size + 1 + 1, 0, none⟩ w4).mono ?_
  rintro e u' w5 ⟨rfl, rfl, rfl⟩
  exact ⟨_, results3 tmps w.heap.size _ _ _ _ h2 h3 h4 ca cb cc, hR⟩

end Go.Proofs.YtfiljgkcipnghaaGreatDoor.X
set_option linter.unusedVariables false
set_option linter.unusedSimpArgs false
namespace Go.Proofs.YtfiljgkcipnghaaGreatDoor.X
open Go.RowKit
/-- Where a region ends in the one way. -/
def onlyN (K : Act → World → Prop) : Exit → Act → World → Prop
  | .normal, a, w => K a w
  | _, _, _ => False
theorem wp_onlyN {P : Program} {c : Code} {K : Act → World → Prop} {Q : Exit → Act → World → Prop} {a : Act} {w : World} (h : c.wp P (onlyN K) a w) : c.wp P (Exit.then K Q) a w :=
  Go.wp_mono h (fun e a w h => by cases e <;> first | exact h | exact h.elim)
theorem tokField0 (a b c d e : Value) (W : World) : (Instr.field 73 (.agg #[a, b, c, d, e]) 0).run Tryz.prog W = .ok a W := by kernel_rfl
theorem own_form {w : World} {base e size n : Nat} {v : Value} {xs : List Value} (h : w.ownsRow base e size v n xs) : ∃ a cap, v = .slice a n cap := by
  rcases h.2 with ⟨e, rfl⟩ | ⟨g, cap, cur, e, _⟩
  · exact ⟨none, 0, e⟩
  · exact ⟨_, cap, e⟩
theorem own_some2 {w : World} {base e size n : Nat} {v : Value} {xs : List Value} (h : w.ownsRow base e size v n xs) (hn : 0 < n) : ∃ g cap, v = .slice (some ⟨g, 0, none⟩) n cap := by
  rcases h.2 with ⟨_, h2⟩ | ⟨g, cap, cur, e, _⟩
  · omega
  · exact ⟨g, cap, e⟩
theorem offs_cell {ts : List Tk} {B : Nat} {M : PM} {S : PS} {w : World} (h : PAt ts B M S w) {g cap : Nat} (e : M.vo = .slice (some ⟨g, 0, none⟩) S.offs.length cap) (hl : 1000 < S.offs.length) : w.cell? ⟨g, 1000, none⟩ = some (.int .i64 (placeT ts (S.offs.getD 1000 0) : Nat)) := by
  have ho := h.offs
  rw [e] at ho
  rw [ho.cellAt 1000 (by omega), List.getElem?_map, List.getElem?_eq_getElem hl, List.getD_eq_getElem?_getD, List.getElem?_eq_getElem hl]
  rfl
set_option maxHeartbeats 8000000 in
set_option maxRecDepth 100000 in
theorem parse_tree (s : ByteArray) (w : World) (hs : s.size ≤ 9223372036854775807) (hL : LW w) (ts : List Tk) (h : scanL s.data.toList = (ts, none)) :
    Calls Tryz.prog 10 #[.string s] w (ParseAns w (match treeOf ts with | .error f => .error (f.1, placeT ts f.2) | .ok (ps, offs) => .ok (ps, offs.map (placeT ts)))) := by
  obtain ⟨hT, hlen⟩ := scan_TOK h
  have SC : Hid (∀ w2, Below w.heap.size w w2 → Calls Tryz.prog 26 #[.string s] w2 (ScanAns w2 (ts, none))) := Lib.hid (fun w2 hb => h ▸ scan_any s w2 hs (hL.below hb))
  have hb0 : Hid (Below w.heap.size w (((w.alloc (.cells #[.slice none 0 0] 25)).alloc (.cells #[.slice none 0 0] 26)).alloc (.cells #[.nilIface] 28))) := Lib.hid ((((Below.refl _ w).alloc (Nat.le_refl _) _).alloc (by simp) _).alloc (by simp; omega) _)
  have hz0 : (((w.alloc (.cells #[.slice none 0 0] 25)).alloc (.cells #[.slice none 0 0] 26)).alloc (.cells #[.nilIface] 28)).heap.size = w.heap.size + 3 := by simp
  have NM := Lib.hid (Nm.new w)
  have LE := Lib.hid ((lv_ok hT 32 (Nat.le_refl _)).expr)
  have hmf : ∀ (fn : Fn) (first cap : Array Value) (w : World), (Instr.makeFunc fn first cap).run Tryz.prog w = .ok (.func fn first cap) w := fun _ _ _ _ => rfl
  have tf := tokField
  obtain ⟨R, hR⟩ : ∃ R, R = treeOf ts := ⟨_, rfl⟩
  rw [← hR]
  unfold treeOf at hR
  have hfair := (lv_fair ts 32).expr
  clear h hL
  cases hx : (lv ts 32).expr ⟨0, 0, [], []⟩ with
  | error f =>
    rw [hx] at hR
    simp only at hR
    subst hR
    simp only
    go_enter_defers Tryz.func10, Tryz.ntmps10
    go_wp2_with (first
      | (go_at_call 28; have EC := LE.out _ _ _ _ PA.out rfl; rw [hx] at EC; refine EC.mono ?_; rintro e w4 ⟨rfl, hB4⟩; have HB4 := Lib.hid hB4; clear hB4 EC)
      | (go_at_call 26; refine (SC.out _ hb0.out).mono ?_; rintro e w2 ⟨hB2, v, hv, rfl⟩; have N2 := Lib.hid (NM.out.below hB2); obtain ⟨ca, cb, cc, fa, fb, fc, hz⟩ := N2.out.facts; have HB2 := Lib.hid (hb0.out.trans (hB2.mono (by rw [hz0]; omega))); have PA := Lib.hid (parser_new hv hlen (g := w.heap.size + 1 + 1) (by rw [hz0]; omega) .nilIface); obtain ⟨gt, ct, rfl⟩ := tok_form hv hlen; clear hB2 hv))
    have hN := (N2.out.setC .nilIface).below ((Below.refl _ _).alloc (Nat.le_refl _) (.cells #[.slice (some ⟨gt, 0, none⟩) ts.length ct, .int .i64 0, .int .i64 0, .slice none 0 0, .slice none 0 0] 69))
    have hBt := ((below_poke HB2.out (Nat.le_refl _) (by omega : w.heap.size ≤ w.heap.size + 1 + 1) .nilIface).alloc (by simp; omega) (.cells #[.slice (some ⟨gt, 0, none⟩) ts.length ct, .int .i64 0, .int .i64 0, .slice none 0 0, .slice none 0 0] 69)).trans (HB4.out.mono (by omega))
    exact caught_leaves w w4 _ f.1 (placeT ts f.2) rfl rfl rfl (hN.mono HB4.out (by omega)) hBt
  | ok p =>
    obtain ⟨i, S⟩ := p
    have hfS := hfair _ _ _ hx
    have hso : S.offs.length = S.parts.length := by have := hfS.offs; simpa using this
    rw [hx] at hR
    simp only at hR
    obtain ⟨t, ht⟩ : ∃ t, t = pk ts S := ⟨_, rfl⟩
    have HTk := Lib.hid ht
    have tf0 := tokField0
    rw [← ht] at hR
    by_cases hk : t.kind = 0
    · rw [if_pos hk] at hR
      have q : (t.kind != 0) = false := by rw [hk]; rfl
      clear hk ht
      by_cases hbig : 1000 < S.parts.length
      · rw [if_pos hbig] at hR
        obtain ⟨o, ho⟩ : ∃ o, o = S.offs.getD 1000 0 := ⟨_, rfl⟩
        rw [← ho] at hR
        have HO := Lib.hid ho
        clear ho
        subst hR
        simp only
        have hI : (1000 : Int) < (S.parts.length : Int) := by omega
        have hI2 : (1000 : Int) < (S.offs.length : Int) := by omega
        go_enter_defers Tryz.func10, Tryz.ntmps10
        go_wp2_with (first
          | (go_at_call 29; refine (X4.out.peek hT).mono ?_; rintro e w5 ⟨he, x5, b5⟩; rw [← HTk.out] at he; simp only [tokCells] at he; subst he; have X5 := Lib.hid x5; obtain ⟨av, cv, ev⟩ := own_form x5.at_.parts; obtain ⟨go, co, eo⟩ := own_some2 x5.at_.offs (by omega); have c3 : w5.cell? ⟨w2.heap.size, 3, none⟩ = some (.slice av S.parts.length cv) := (by have hP : M4.P = w2.heap.size := x5.P; rw [← hP, ← ev]; exact (Lib.cell_of_heap x5.at_.cells _).trans rfl); have c4 : w5.cell? ⟨w2.heap.size, 4, none⟩ = some (.slice (some ⟨go, 0, none⟩) S.offs.length co) := (by have hP : M4.P = w2.heap.size := x5.P; rw [← hP, ← eo]; exact (Lib.cell_of_heap x5.at_.cells _).trans rfl); have c5 : w5.cell? ⟨go, 1000, none⟩ = some (.int .i64 (placeT ts o : Nat)) := (by rw [HO.out]; exact offs_cell x5.at_ eo (by omega)); clear ev eo; clear x5 b5)
          | (go_at_call 28; have EC := LE.out _ _ _ _ PA.out rfl; rw [hx] at EC; refine EC.mono ?_; rintro e w4 ⟨M4, rfl, h4, k4⟩; have X4 : Hid (Stp ts w2.heap.size ⟨w2.heap.size, .slice (some ⟨gt, 0, none⟩) ts.length ct, .slice none 0 0, .slice none 0 0, []⟩ ((w2.setCell ⟨w.heap.size + 1 + 1, 0, none⟩ .nilIface).alloc (.cells #[.slice (some ⟨gt, 0, none⟩) ts.length ct, .int .i64 0, .int .i64 0, .slice none 0 0, .slice none 0 0] 69)) M4 S w4) := Lib.hid ⟨h4, k4, by simp⟩; clear h4 k4 EC)
          | (go_at_call 26; refine (SC.out _ hb0.out).mono ?_; rintro e w2 ⟨hB2, v, hv, rfl⟩; have N2 := Lib.hid (NM.out.below hB2); obtain ⟨ca, cb, cc, fa, fb, fc, hz⟩ := N2.out.facts; have HB2 := Lib.hid (hb0.out.trans (hB2.mono (by rw [hz0]; omega))); have PA := Lib.hid (parser_new hv hlen (g := w.heap.size + 1 + 1) (by rw [hz0]; omega) .nilIface); obtain ⟨gt, ct, rfl⟩ := tok_form hv hlen; clear hB2 hv))
        have hN := (N2.out.setC .nilIface).below ((Below.refl _ _).alloc (Nat.le_refl _) (.cells #[.slice (some ⟨gt, 0, none⟩) ts.length ct, .int .i64 0, .int .i64 0, .slice none 0 0, .slice none 0 0] 69))
        have hBt := ((below_poke HB2.out (Nat.le_refl _) (by omega : w.heap.size ≤ w.heap.size + 1 + 1) .nilIface).alloc (by simp; omega) (.cells #[.slice (some ⟨gt, 0, none⟩) ts.length ct, .int .i64 0, .int .i64 0, .slice none 0 0, .slice none 0 0] 69)).trans (X5.out.kept.below.mono (by omega))
        exact caught_leaves w w5 _ 123 (placeT ts o) rfl rfl rfl (hN.mono X5.out.kept.below (by omega)) hBt
      · rw [if_neg hbig] at hR
        subst hR
        simp only
        have hI : ¬ (1000 : Int) < (S.parts.length : Int) := by omega
        have hps : S.parts.length ≤ 1000 := by omega
        go_enter_defers Tryz.func10, Tryz.ntmps10
        go_wp2_with (first
          | (go_at_call 29; refine (X4.out.peek hT).mono ?_; rintro e w5 ⟨he, x5, b5⟩; rw [← HTk.out] at he; simp only [tokCells] at he; subst he; have X5 := Lib.hid x5; obtain ⟨av, cv, ev⟩ := own_form x5.at_.parts; obtain ⟨ao, co, eo⟩ := own_form x5.at_.offs; rw [hso] at eo; have EV := Lib.hid ev; have EO := Lib.hid eo; have c3 : w5.cell? ⟨w2.heap.size, 3, none⟩ = some (.slice av S.parts.length cv) := (by have hP : M4.P = w2.heap.size := x5.P; rw [← hP, ← ev]; exact (Lib.cell_of_heap x5.at_.cells _).trans rfl); have c4 : w5.cell? ⟨w2.heap.size, 4, none⟩ = some (.slice ao S.parts.length co) := (by have hP : M4.P = w2.heap.size := x5.P; rw [← hP, ← eo]; exact (Lib.cell_of_heap x5.at_.cells _).trans rfl); have CP := Lib.hid (fun wx => (by (have c := clip_parts (w := wx) x5.at_.parts (by omega); rw [ev] at c; exact c) : Calls Tryz.prog 31 #[.slice av S.parts.length cv] wx fun e w' => e = .returned (.slice av S.parts.length S.parts.length) ∧ w' = wx)); have CI := Lib.hid (fun wx => (by (have c := clip_ints (w := wx) x5.at_.offs (by omega); rw [eo] at c; exact c) : Calls Tryz.prog 32 #[.slice ao S.parts.length co] wx fun e w' => e = .returned (.slice ao S.parts.length S.parts.length) ∧ w' = wx)); have N5 := Lib.hid (((N2.out.setC .nilIface).below ((Below.refl _ _).alloc (Nat.le_refl _) (.cells #[.slice (some ⟨gt, 0, none⟩) ts.length ct, .int .i64 0, .int .i64 0, .slice none 0 0, .slice none 0 0] 69))).mono x5.kept.below (by omega)); obtain ⟨da, db, dc, ga, gb, gc, hz5⟩ := N5.out.facts; clear x5 b5 ev eo)
          | (go_at_call 28; have EC := LE.out _ _ _ _ PA.out rfl; rw [hx] at EC; refine EC.mono ?_; rintro e w4 ⟨M4, rfl, h4, k4⟩; have X4 : Hid (Stp ts w2.heap.size ⟨w2.heap.size, .slice (some ⟨gt, 0, none⟩) ts.length ct, .slice none 0 0, .slice none 0 0, []⟩ ((w2.setCell ⟨w.heap.size + 1 + 1, 0, none⟩ .nilIface).alloc (.cells #[.slice (some ⟨gt, 0, none⟩) ts.length ct, .int .i64 0, .int .i64 0, .slice none 0 0, .slice none 0 0] 69)) M4 S w4) := Lib.hid ⟨h4, k4, by simp⟩; clear h4 k4 EC)
          | (go_at_call 26; refine (SC.out _ hb0.out).mono ?_; rintro e w2 ⟨hB2, v, hv, rfl⟩; have N2 := Lib.hid (NM.out.below hB2); obtain ⟨ca, cb, cc, fa, fb, fc, hz⟩ := N2.out.facts; have HB2 := Lib.hid (hb0.out.trans (hB2.mono (by rw [hz0]; omega))); have PA := Lib.hid (parser_new hv hlen (g := w.heap.size + 1 + 1) (by rw [hz0]; omega) .nilIface); obtain ⟨gt, ct, rfl⟩ := tok_form hv hlen; clear hB2 hv))
        refine wp_onlyN ?_
        go_region_with (first | (go_at_call 31; refine (CP.out _).mono ?_; rintro e w6 ⟨rfl, rfl⟩) | (go_at_call 32; refine (CI.out _).mono ?_; rintro e w6 ⟨rfl, rfl⟩))
        all_goals simp only [onlyN]
        all_goals go_wp2
        all_goals
          have hB5 := ((below_poke HB2.out (Nat.le_refl _) (by omega : w.heap.size ≤ w.heap.size + 1 + 1) .nilIface).alloc (by simp; omega) (.cells #[.slice (some ⟨gt, 0, none⟩) ts.length ct, .int .i64 0, .int .i64 0, .slice none 0 0, .slice none 0 0] 69)).trans (X5.out.kept.below.mono (by omega))
          have hTr := tree_clip X5.out.at_
          rw [EV.out, EO.out] at hTr
          have hTr2 : TreeAt w5 w2.heap.size (.slice av S.parts.length S.parts.length) (.slice ao S.parts.length S.parts.length) M4.kv S.parts (S.offs.map (placeT ts)) := hTr
          refine idle_leaves w _ _ _ (a := .slice av S.parts.length S.parts.length) (b := .slice ao S.parts.length S.parts.length) (c := .nilIface) rfl rfl rfl ?_ ?_ ?_ ⟨?_, _, _, M4.kv, rfl, ?_⟩
          · simp [go_sem, da, db, dc, ga, gb, gc]
          · simp [go_sem, da, db, dc, ga, gb, gc]
          · simp [go_sem, da, db, dc, ga, gb, gc]
          · exact (below_poke (below_poke (below_poke hB5 (Nat.le_refl _) (by omega) _) (Nat.le_refl _) (by omega) _) (Nat.le_refl _) (by omega) _).drew
          · exact ((((hTr2.poke (by omega) _).poke (by omega) _).poke (by omega) _).weak (by omega)).below ((Below.refl _ _).drew)
    · rw [if_neg hk] at hR
      have q : (t.kind != 0) = true := by rw [bne_iff_ne]; exact hk
      clear hk ht
      subst hR
      simp only
      go_enter_defers Tryz.func10, Tryz.ntmps10
      go_wp2_with (first
        | (go_at_call 30; refine (X5.out.wrong hT).mono ?_; rintro e w6 ⟨rfl, hB6⟩; have HB6 := Lib.hid hB6; clear hB6)
        | (go_at_call 29; refine (X4.out.peek hT).mono ?_; rintro e w5 ⟨he, x5, b5⟩; rw [← HTk.out] at he; simp only [tokCells] at he; subst he; have X5 := Lib.hid x5; clear x5 b5)
        | (go_at_call 28; have EC := LE.out _ _ _ _ PA.out rfl; rw [hx] at EC; refine EC.mono ?_; rintro e w4 ⟨M4, rfl, h4, k4⟩; have X4 : Hid (Stp ts w2.heap.size ⟨w2.heap.size, .slice (some ⟨gt, 0, none⟩) ts.length ct, .slice none 0 0, .slice none 0 0, []⟩ ((w2.setCell ⟨w.heap.size + 1 + 1, 0, none⟩ .nilIface).alloc (.cells #[.slice (some ⟨gt, 0, none⟩) ts.length ct, .int .i64 0, .int .i64 0, .slice none 0 0, .slice none 0 0] 69)) M4 S w4) := Lib.hid ⟨h4, k4, by simp⟩; clear h4 k4 EC)
        | (go_at_call 26; refine (SC.out _ hb0.out).mono ?_; rintro e w2 ⟨hB2, v, hv, rfl⟩; have N2 := Lib.hid (NM.out.below hB2); obtain ⟨ca, cb, cc, fa, fb, fc, hz⟩ := N2.out.facts; have HB2 := Lib.hid (hb0.out.trans (hB2.mono (by rw [hz0]; omega))); have PA := Lib.hid (parser_new hv hlen (g := w.heap.size + 1 + 1) (by rw [hz0]; omega) .nilIface); obtain ⟨gt, ct, rfl⟩ := tok_form hv hlen; clear hB2 hv))
      have hN := (N2.out.setC .nilIface).below ((Below.refl _ _).alloc (Nat.le_refl _) (.cells #[.slice (some ⟨gt, 0, none⟩) ts.length ct, .int .i64 0, .int .i64 0, .slice none 0 0, .slice none 0 0] 69))
      have hBt := ((below_poke HB2.out (Nat.le_refl _) (by omega : w.heap.size ≤ w.heap.size + 1 + 1) .nilIface).alloc (by simp; omega) (.cells #[.slice (some ⟨gt, 0, none⟩) ts.length ct, .int .i64 0, .int .i64 0, .slice none 0 0, .slice none 0 0] 69)).trans (HB6.out.mono (by omega))
      exact caught_leaves w w6 _ (wrongP ts S).1 (placeT ts (wrongP ts S).2) rfl rfl rfl (hN.mono HB6.out (by omega)) hBt
theorem parse_c (s : ByteArray) (w : World) (hs : s.size ≤ 9223372036854775807) (hL : LW w) : Calls Tryz.prog 10 #[.string s] w (ParseAns w (parseL s.data.toList)) := by
  unfold parseL
  cases h : scanL s.data.toList with
  | mk ts f =>
    cases f with
    | some f => exact parse_scan s w hs hL f ts h
    | none => exact parse_tree s w hs hL ts h

end Go.Proofs.YtfiljgkcipnghaaGreatDoor.X
