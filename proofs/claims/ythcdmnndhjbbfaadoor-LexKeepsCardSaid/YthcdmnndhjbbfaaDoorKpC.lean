/-
  The walk of Apart: lists that have memory of their own.
-/
import Derived.Test.YthcdmnndhjbbfaaDoorKpB
set_option linter.unusedVariables false
set_option linter.unusedSimpArgs false
namespace Go.Proofs.YthcdmnndhjbbfaaDoor.X
open Go.RowKit
theorem own_keepT {w w' : World} {base e sz n : Nat} {v : Value} {xs : List Value} {X : Nat → Prop} (h : w.ownsRow base e sz v n xs) (hk : Keep X w w') (hx : ∀ k, v.ownBlock = some k → ¬ X k) : w'.ownsRow base e sz v n xs := by
  refine ⟨h.1, ?_⟩
  rcases h.2 with h1 | ⟨g, cap, cur, rfl, h3, h4, h5⟩
  · exact .inl h1
  · exact .inr ⟨g, cap, cur, rfl, h3, (hk.block g (Array.getElem?_eq_some_iff.1 h4).1 (hx g rfl)).trans h4, h5⟩
theorem A2.own_after {w wr w1 : World} {vs gs xs : List Value} {n k : Nat} {gv v7 v : Value} (a : A2 w wr vs n gs gv) (h : AIn w vs n) (hv : v ∈ vs) (g : WH wr w1 v n xs k v7) : w1.ownsRow w.heap.size 33 1 gv gs.length gs :=
  own_keepT a.own g.keep fun b hb e => by
    obtain ⟨xs, hx⟩ := h.rows v hv
    have h1 := hx.lt b e
    have h2 := (a.own.lt b hb).1
    omega
theorem infoTokS : (Tryd.prog.info? 33).map (fun i => (i.zero, i.size, i.bytes)) = some (some (.slice none 0 0), 1, 24) := by kernel_rfl
/-- append of a slice that stands in the last block. -/
theorem app_sl {ops : Array Oper} {rest : List Oper} {o : Oper} {a : Act} {Q : Exit → Act → World → Prop} {W : World} (base : Nat) (hgd : o.guard = none) (s x : Operand)
    (ho : o.op = .call { callee := .builtin .append, args := #[s, x], argTypes := #[53, 53] })
    (v : Value) (gs : List Value) (u : Value) (hu1 : u.oneCell' = true) (hs : a.eval s = v) (hx : a.eval x = .slice (some ⟨W.heap.size, 0, none⟩) 1 1)
    (HO : W.ownsRow base 33 1 v gs.length gs) (hbase : base ≤ W.heap.size) (hl : gs.length ≤ 1000000000)
    (h : ∀ v1 w1, w1.ownsRow base 33 1 v1 (gs.length + 1) (gs ++ [u]) → (W.alloc (.cells #[u] 33)).grownBy w1 v.ownBlock → (v1.ownBlock = v.ownBlock ∨ ∃ b, v1.ownBlock = some b ∧ (W.alloc (.cells #[u] 33)).heap.size ≤ b) → wpList Tryd.prog ops Q rest (a.put o.dst v1) w1) :
    wpList Tryd.prog ops Q (o :: rest) a (W.alloc (.cells #[u] 33)) := by
  obtain ⟨i0, hi, hz0, hz1, hz2⟩ := info_parts infoTokS
  refine wpList_append_own_at (W.alloc (.cells #[u] 33)) hgd s x 53 ho base 33 i0 (.slice none 0 0) 1 24 Tryd.underlying53 hi hz0 hz1 hz2 rfl (by omega) v gs.length _ hs (HO.alloc _) ⟨W.heap.size, 0, none⟩ 1 1 [u] hx (by simp)
    (fun j u' hu => World.news_of_block (cs := #[u]) (t := 33) (fr := (0, 0)) (heap_alloc_new W _) j u' (by simpa using hu)) (by simpa using hu1) (by simp only [maxLen]; omega) (by omega) (by simp; omega) ?_
  intro v1 w1 hown hg _ hat
  exact h v1 w1 hown hg (hat.imp id fun e => ⟨_, e, Nat.le_refl _⟩)
theorem info5 : ∃ i : TypeInfo, Tryd.prog.info? 44 = some i ∧ i.zero = some (.agg zeroCells) ∧ i.size = 5 ∧ i.bytes = 48 := info_parts infoTok
theorem tok9_neq (k i : Nat) (W : World) : (binOp .neq 44 (.agg #[.int .i64 9, .string ⟨#[]⟩, .int .i64 k, .int .i64 i, .int .i64 0]) (.agg #[.int .i64 9, .string ⟨#[]⟩, .int .i64 k, .int .i64 i, .int .i64 0])).run Tryd.prog W = .ok (.bool false) W := by
  have h := run_neq_tok (tk9 k i) (tk9 k i) W
  rw [decide_eq_true rfl] at h
  exact h
theorem tok7_neq (k : Nat) (W : World) : (binOp .neq 44 (.agg #[.int .i64 7, .string ⟨#[]⟩, .int .i64 k, .int .i64 0, .int .i64 0]) (.agg #[.int .i64 7, .string ⟨#[]⟩, .int .i64 k, .int .i64 0, .int .i64 0])).run Tryd.prog W = .ok (.bool false) W := by
  have h := run_neq_tok (tk7 k) (tk7 k) W
  rw [decide_eq_true rfl] at h
  exact h
theorem own_cell {w : World} {base e g n c : Nat} {xs : List Value} (h : w.ownsRow base e 1 (.slice (some ⟨g, 0, none⟩) n c) n xs) {j : Nat} (hj : j < xs.length) : w.cell? ⟨g, j, none⟩ = some xs[j] := by
  have := h.cells (g := g) rfl j xs[j] (List.getElem?_eq_getElem hj)
  rw [← this]
  unfold Addr.add
  dsimp only
  split
  · rename_i h0
    rw [h0]
  · rw [Nat.zero_add]
set_option maxHeartbeats 8000000 in
set_option maxRecDepth 100000 in
theorem apart_any (A cap : Nat) (vs : List Value) (n : Nat) (w : World) (hK : vs.length ≤ 1000) (hn : n ≤ 1000000) (h : AIn w vs n) (hA : ∀ v, v ∈ vs → v.ownBlock ≠ some A) (hc : ∀ j (h : j < vs.length), w.cell? ⟨A, j, none⟩ = some vs[j]) :
    Calls Tryd.prog 23 #[.slice (some ⟨A, 0, none⟩) vs.length cap] w fun e w' => e = .returned (.bool true) ∧ Keep (XV vs) w w' := by
  have H := Lib.hid h
  have HC : Hid (∀ wr, Keep (XV vs) w wr → ∀ j (h : j < vs.length), wr.cell? ⟨A, j, none⟩ = some vs[j]) := Lib.hid (fun wr hk j hj => hk.cell (hc j hj) (fun ⟨v, hv, e⟩ => hA v hv e))
  have H0 : Hid (A1 w w vs n 0) := Lib.hid ⟨Keep.refl _ _, h.rows, fun j _ hj => absurd hj (Nat.not_lt_zero _)⟩
  clear h hA hc
  go_enter Tryd.func23, Tryd.ntmps23
  go_wp2_with fail
  go_loopw [16] (fun v wr => ∃ k : Nat, k ≤ vs.length ∧ v = .int .i64 k ∧ Hid (A1 w wr vs n k)) (fun v _ => vs.length - (intOf v).toNat)
  case atStart => exact ⟨0, by omega, rfl, H0⟩
  case round =>
    clear H0
    obtain ⟨k, hk, rfl, HB⟩ := hrel
    by_cases hlt : k < vs.length
    · have hI : (k : Int) < (vs.length : Int) := by omega
      have ca := HC.out _ HB.out.keep k hlt
      obtain ⟨xs0, hr0⟩ := HB.out.rows _ (List.getElem_mem hlt)
      obtain ⟨a, c, ev, hnc, hcm⟩ := hr0.shape
      simp only [maxLen] at hcm
      have HE := Lib.hid ev
      rw [ev] at ca
      have haz := World.block_lt_of_cell? _ _ ca
      clear hr0 ev
      go_wp2_with fail
      clear ca haz
      obtain ⟨wA, rfl⟩ : ∃ x, x = wr := ⟨_, rfl⟩
      go_loopw [23] (fun v wq => ∃ i : Nat, i ≤ n ∧ v = .int .i64 i ∧ Hid (A1i w wq vs n k i hlt)) (fun v _ => n - (intOf v).toNat)
      case atStart => exact ⟨0, by omega, rfl, Lib.hid (HB.out.begin hlt)⟩
      case round =>
        clear HB
        obtain ⟨i, hi, rfl, HQ⟩ := hrel
        by_cases hlt2 : i < n
        · have hJ : (i : Int) < (n : Int) := by omega
          obtain ⟨xs1, hr1⟩ := HQ.out.out.rows _ (List.getElem_mem hlt)
          rw [HE.out] at hr1
          obtain ⟨g, c', e, hgz, hfz, hcl⟩ := hr1.cells (by omega)
          injection e with e1 _ e3
          subst e1 e3
          have HS := Lib.hid (over5 hr1 hlt2 (tk9 k i))
          obtain ⟨u0, _, c0⟩ := hcl (i * 5) (by omega)
          obtain ⟨u1, _, c1⟩ := hcl (i * 5 + 1) (by omega)
          obtain ⟨u2, _, c2⟩ := hcl (i * 5 + 2) (by omega)
          obtain ⟨u3, _, c3⟩ := hcl (i * 5 + 3) (by omega)
          obtain ⟨u4, _, c4⟩ := hcl (i * 5 + 4) (by omega)
          clear hr1 hcl
          go_wp2_with fail
          all_goals
            go_roundw
            case rel => exact ⟨i + 1, by omega, by go_num, Lib.hid (HQ.out.step H.out (by rw [HE.out]; exact HS.out))⟩
            case measure => simp [intOf]; omega
        · obtain rfl : i = n := by omega
          have hJ : ¬ (i : Int) < (i : Int) := by omega
          go_wp2_with fail
          go_roundw
          case rel => exact ⟨k + 1, by omega, by go_num, Lib.hid HQ.out.fin⟩
          case measure => simp [intOf]; omega
    · obtain rfl : k = vs.length := by omega
      have hI : ¬ (vs.length : Int) < (vs.length : Int) := by omega
      have H0 := Lib.hid (A2.begin HB.out)
      clear HB
      go_wp2_with fail
      obtain ⟨wB, rfl⟩ : ∃ x, x = wr := ⟨_, rfl⟩
      go_loopw [6, 36] (fun gv v wr => ∃ (k : Nat) (gs : List Value), k ≤ vs.length ∧ gs.length = k ∧ v = .int .i64 k ∧ Hid (A2 w wr vs n gs gv)) (fun _ v _ => vs.length - (intOf v).toNat)
      case atStart => exact ⟨0, [], by omega, rfl, rfl, H0⟩
      case round =>
        clear H0
        obtain ⟨k, gs, hk, hgl, rfl, HB⟩ := hrel
        by_cases hlt : k < vs.length
        · have hI : (k : Int) < (vs.length : Int) := by omega
          have ca := HC.out _ HB.out.keep k hlt
          obtain ⟨xs, hr0⟩ := HB.out.rows _ (List.getElem_mem hlt)
          obtain ⟨a, c, ev, hnc, hcm⟩ := hr0.shape
          simp only [maxLen] at hcm
          have HE := Lib.hid ev
          rw [ev] at ca hr0
          have HR := Lib.hid hr0
          have haz := World.block_lt_of_cell? _ _ ca
          clear hr0 ev
          obtain ⟨wA, rfl⟩ : ∃ x, x = wr := ⟨_, rfl⟩
          go_wp2_with fail
          clear ca haz
          go_loopw [9, 10] (fun v5 i wq => ∃ j : Nat, j ≤ 64 ∧ i = .int .i64 j ∧ Hid (WG wA wq (.slice a n c) n xs j v5)) (fun _ i _ => 64 - (intOf i).toNat)
          case atStart => exact ⟨0, by omega, rfl, Lib.hid (WG.begin HR.out)⟩
          case round =>
            obtain ⟨j, hj, rfl, HQ⟩ := hrel
            by_cases hlt2 : j < 64
            · have hJ : (j : Int) < 64 := by omega
              obtain ⟨ys, hy, hat5⟩ := HQ.out.row5
              have HY := Lib.hid hy
              have HA5 := Lib.hid hat5
              clear hy hat5
              go_wp2_with (at_builtin; go_loud (refine app_rw rfl (.tmp 46) (.tmp 50) 33 44 rfl _ (.agg zeroCells) 5 48 Tryd.underlying33 info5.choose_spec.1 info5.choose_spec.2.1 info5.choose_spec.2.2.1 info5.choose_spec.2.2.2 rfl (by omega) (by omega) _ (n + j) _ _ rfl (by simp [Value.oneCell']) rfl rfl HY.out (by omega) ?_; intro v6 w1 hr6 hat6; have S6 := Lib.hid (WG.step HR.out (HQ.out.below ((Below.refl _ _).alloc (Nat.le_refl _) _)).keep (HQ.out.below ((Below.refl _ _).alloc (Nat.le_refl _) _)).row HY.out.1 HA5.out hr6 hat6); clear hr6 hat6))
              go_roundw
              case rel => exact ⟨j + 1, by omega, by go_num, S6⟩
              case measure => simp [intOf]; omega
            · obtain rfl : j = 64 := by omega
              have hJ : ¬ ((64 : Nat) : Int) < 64 := by omega
              have HRQ := Lib.hid HQ.out.row
              go_wp2_with (first
                | (at_builtin; go_loud (refine app_sl w.heap.size rfl (.tmp 52) (.tmp 58) rfl _ gs _ rfl rfl rfl (HB.out.own_after H.out (List.getElem_mem hlt) S7.out) (by have := HB.out.keep.size; have := S7.out.keep.size; omega) (by omega) ?_; intro v8 w2 hr8 hg8 hat8; have S8 := Lib.hid (HB.out.step H.out (by omega) HR8.out S7.out ((Below.refl _ _).alloc (Nat.le_refl _) _) hr8 hg8 hat8); clear hr8 hg8 hat8))
                | (at_builtin; go_loud (refine app_rw rfl (.tmp 53) (.tmp 56) 33 44 rfl _ (.agg zeroCells) 5 48 Tryd.underlying33 info5.choose_spec.1 info5.choose_spec.2.1 info5.choose_spec.2.2.1 info5.choose_spec.2.2.2 rfl (by omega) (by omega) _ n _ _ rfl (by simp [Value.oneCell']) rfl rfl HRQ.out (by omega) ?_; intro v7 w1 hr7 hat7; subst hgl; have S7 := Lib.hid (show WH wA w1 vs[gs.length] n xs gs.length v7 by rw [HE.out]; exact WH.of HR.out (HQ.out.below ((Below.refl _ _).alloc (Nat.le_refl _) _)).keep (HQ.out.below ((Below.refl _ _).alloc (Nat.le_refl _) _)).row hr7 hat7); have HR8 := Lib.hid (show RW wA 44 5 vs[gs.length] n xs by rw [HE.out]; exact HR.out); obtain ⟨g7, c7, rfl, _, _⟩ := S7.out.shp; clear hr7 hat7)))
              go_roundw
              case rel => exact ⟨gs.length + 1, _, by omega, by simp, by go_num, S8⟩
              case measure => simp [intOf]; omega
        · obtain rfl : k = vs.length := by omega
          have hI : ¬ (vs.length : Int) < (vs.length : Int) := by omega
          obtain ⟨Ag, cg, rfl⟩ := own_slice HB.out.own
          go_wp2_with fail
          obtain ⟨wC, rfl⟩ : ∃ x, x = wr := ⟨_, rfl⟩
          go_loopw [63] (fun v wq => ∃ k : Nat, k ≤ vs.length ∧ v = .int .i64 k ∧ wC = wq) (fun v _ => vs.length - (intOf v).toNat)
          case atStart => exact ⟨0, by omega, rfl, rfl⟩
          case round =>
            obtain ⟨k, hk, rfl, rfl⟩ := hrel
            by_cases hlt : k < vs.length
            · have hI : (k : Int) < (vs.length : Int) := by omega
              have ca := HC.out _ HB.out.keep k hlt
              obtain ⟨xs, hr0⟩ := HB.out.rows _ (List.getElem_mem hlt)
              obtain ⟨a, c, ev, hnc, hcm⟩ := hr0.shape
              simp only [maxLen] at hcm
              have HD : Hid (∀ i, i < n → TokC wC (.slice a n c) i (tk9 k i)) := Lib.hid (fun i hi => by have h := HB.out.done k hlt i hi; rw [ev] at h; exact h)
              rw [ev] at ca
              have haz := World.block_lt_of_cell? _ _ ca
              clear hr0 ev
              go_wp2_with fail
              go_loopw [70] (fun v wq => ∃ i : Nat, i ≤ n ∧ v = .int .i64 i ∧ wC = wq) (fun v _ => n - (intOf v).toNat)
              case atStart => exact ⟨0, by omega, rfl, rfl⟩
              case round =>
                obtain ⟨i, hi, rfl, rfl⟩ := hrel
                by_cases hlt2 : i < n
                · have hJ : (i : Int) < (n : Int) := by omega
                  obtain ⟨g, n', c', e, hcl⟩ := HD.out i hlt2
                  injection e with e1 e2 e3
                  subst e1 e2 e3
                  have c0 : wC.cell? ⟨g, i * 5, none⟩ = some (.int .i64 9) := hcl 0 _ rfl
                  have c1 : wC.cell? ⟨g, i * 5 + 1, none⟩ = some (.string ⟨#[]⟩) := hcl 1 _ rfl
                  have c2 : wC.cell? ⟨g, i * 5 + 2, none⟩ = some (.int .i64 k) := hcl 2 _ rfl
                  have c3 : wC.cell? ⟨g, i * 5 + 3, none⟩ = some (.int .i64 i) := hcl 3 _ rfl
                  have c4 : wC.cell? ⟨g, i * 5 + 4, none⟩ = some (.int .i64 0) := hcl 4 _ rfl
                  have hgz := World.block_lt_of_cell? _ _ c0
                  have NT := tok9_neq k i
                  clear hcl
                  go_wp2_with fail
                  go_roundw
                  case rel => exact ⟨i + 1, by omega, by go_num, by first | rfl | trivial⟩
                  case measure => simp [intOf]; omega
                · obtain rfl : i = n := by omega
                  have hJ : ¬ (i : Int) < (i : Int) := by omega
                  have hkg : k < gs.length := by omega
                  obtain ⟨hg1, b, c7, hg2, hbz, _, _⟩ := HB.out.gr k hkg
                  have hown := HB.out.own
                  obtain ⟨gb, cgb, e⟩ : ∃ gb cgb, (Value.slice Ag gs.length cg) = .slice (some ⟨gb, 0, none⟩) gs.length cgb := by
                    obtain ⟨m, hm⟩ : ∃ m, gs.length = m + 1 := ⟨gs.length - 1, by omega⟩
                    rw [hm] at hown ⊢
                    exact own_someT hown
                  injection e with e1 _ e3
                  subst e1 e3
                  have cg1 := own_cell hown hkg
                  rw [hg2] at cg1 hg1
                  obtain ⟨g, n', c', e, hcl⟩ := hg1
                  injection e with e1 e2 e3
                  injection e1 with e1
                  injection e1 with e1
                  subst e1 e2 e3
                  have c0 : wC.cell? ⟨b, i * 5, none⟩ = some (.int .i64 7) := hcl 0 _ rfl
                  have c1 : wC.cell? ⟨b, i * 5 + 1, none⟩ = some (.string ⟨#[]⟩) := hcl 1 _ rfl
                  have c2 : wC.cell? ⟨b, i * 5 + 2, none⟩ = some (.int .i64 k) := hcl 2 _ rfl
                  have c3 : wC.cell? ⟨b, i * 5 + 3, none⟩ = some (.int .i64 0) := hcl 3 _ rfl
                  have c4 : wC.cell? ⟨b, i * 5 + 4, none⟩ = some (.int .i64 0) := hcl 4 _ rfl
                  have hgz := World.block_lt_of_cell? _ _ cg1
                  have hKG : (k : Int) < (gs.length : Int) := by omega
                  have NT := tok7_neq k
                  clear hcl hown
                  go_wp2_with fail
                  go_roundw
                  case rel => exact ⟨k + 1, by omega, by go_num, by first | rfl | trivial⟩
                  case measure => simp [intOf]; omega
            · obtain rfl : k = vs.length := by omega
              have hI : ¬ (vs.length : Int) < (vs.length : Int) := by omega
              go_wp2_with fail
              go_ret
              exact ⟨rfl, HB.out.keep⟩

end Go.Proofs.YthcdmnndhjbbfaaDoor.X
