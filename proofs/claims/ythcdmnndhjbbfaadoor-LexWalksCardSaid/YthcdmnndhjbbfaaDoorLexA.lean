/-
  The walk of the reference's TokenAt (begun).
-/
import Derived.Test.YthcdmnndhjbbfaaDoorLexK
import Derived.Test.YthcdmnndhjbbfaaDoorLexR
set_option linter.unusedVariables false
set_option linter.unusedSimpArgs false
namespace Go.Proofs.YthcdmnndhjbbfaaDoor.X
open Go.RowKit
theorem results_ctt {P : Program} {fn : Func} {p u v : Tmp} {ty : TypeId} (h : fn.results = #[.cell p ty, .tmp u, .tmp v]) (tmps : Array Value) (w : World) (g : Nat) (t : TypeId) (cs : Array Value) (fr : Nat × Nat) (d : TypeDesc) (uv vv : Value) (huv : tmps.getD u undef = uv) (hvv : tmps.getD v undef = vv)
    (hp : tmps.getD p undef = .pointer (some ⟨g, 0, none⟩)) (hg : w.heap[g]? = some (.cells cs t fr))
    (hu : P.underlying ty = some d) (hd : (match d with | .struct _ | .array _ _ => true | _ => false) = true) (hi : (P.info? ty).map (·.size) = some cs.size) :
    (results fn tmps).run P w = .ok (.tuple #[.agg cs, uv, vv]) w := by
  subst huv
  subst hvv
  have hp' : tmps[p]?.getD undef = .pointer (some ⟨g, 0, none⟩) := by simpa using hp
  simp [results, h, hp', asAddr, run_loadVar_row w g t ty cs fr d hg hu hd hi]
/-- What TokenAt answers. -/
def refAns (w : World) (r : Res) (e : Ending) (w' : World) : Prop := Below w.heap.size w w' ∧ match r with
  | .ok t => e = .returned (.tuple #[tokV t, .int .i64 0, .int .i64 0])
  | .error (c, a) => e = .returned (.tuple #[.agg zeroCells, .int .i64 c, .int .i64 (a : Nat)])
theorem refTok_end (s : ByteArray) (w : World) (hs : s.size ≤ 1000000000000) :
    Calls Tryd.prog 31 #[.string s, .int .i64 s.size] w (refAns w (.ok ⟨0, [], 0, s.size, s.size⟩)) := by
  go_enter Tryd.func31, Tryd.ntmps31
  go_wp2
  refine bodyPost_ret (results_ctt rfl _ _ w.heap.size 44 #[.int .i64 0, .string ⟨#[]⟩, .int .i64 0, .int .i64 s.size, .int .i64 s.size] (0, 0) _ (.int .i64 0) (.int .i64 0) rfl rfl rfl (Go.heap_alloc_new w _) Tryd.underlying44 rfl (by rw [tokSize]; rfl)) rfl ⟨(Below.refl _ _).alloc (Nat.le_refl _) _, rfl⟩
set_option maxHeartbeats 4000000 in
set_option maxRecDepth 100000 in
/-- A text. -/
theorem refTok_text (s : ByteArray) (i : Nat) (w : World) (hs : s.size ≤ 1000000000000) (hi : i < s.size) (c34 : s[i] = 34) :
    Calls Tryd.prog 31 #[.string s, .int .i64 i] w (refAns w (textAt s.data.toList i)) := by
  have TC := Lib.hid (fun W => refText_any s i W hs hi)
  have e34 : ((s[i].toNat : Int) == 34) = true := byte_eq s[i] 34 c34
  have TZ := Lib.hid (Go.heap_alloc_new w (.cells zeroCells 44))
  have hI : ¬ ((s.size : Int) ≤ (i : Int)) := by omega
  rw [textAt_eq]
  clear c34
  generalize strL (s.data.toList.drop (i + 1)) (i + 1) [] = R at TC ⊢
  have fin : ∀ (c : Int) (a : Nat), c ≠ 0 → Hid (∀ W, Calls Tryd.prog 29 #[.string s, .int .i64 i] W fun e w' => e = .returned (.tuple #[.string ⟨#[]⟩, .int .i64 0, .int .i64 c, .int .i64 (a : Nat)]) ∧ Below W.heap.size W w') → Calls Tryd.prog 31 #[.string s, .int .i64 i] w (refAns w (.error (c, a))) := by
      intro c a hc TC
      have hc2 : (c != 0) = true := by simpa using hc
      clear hc
      go_enter Tryd.func31, Tryd.ntmps31
      go_wp2_with (go_at_call 29; refine (TC.out _).mono ?_; rintro e w2 ⟨rfl, hB2⟩; have tz2 := (hB2.block w.heap.size (by simp)).trans TZ.out; have y0 : w2.cell? ⟨w.heap.size, 0, none⟩ = some (.int .i64 0) := (Lib.cell_of_heap tz2 _).trans rfl; have y1 : w2.cell? ⟨w.heap.size, 1, none⟩ = some (.string ⟨#[]⟩) := (Lib.cell_of_heap tz2 _).trans rfl; have y2 : w2.cell? ⟨w.heap.size, 2, none⟩ = some (.int .i64 0) := (Lib.cell_of_heap tz2 _).trans rfl; have y3 : w2.cell? ⟨w.heap.size, 3, none⟩ = some (.int .i64 0) := (Lib.cell_of_heap tz2 _).trans rfl; have y4 : w2.cell? ⟨w.heap.size, 4, none⟩ = some (.int .i64 0) := (Lib.cell_of_heap tz2 _).trans rfl; have yf : ∀ j, w2.frozen? ⟨w.heap.size, j, none⟩ = false := (fun j => by simp [World.frozen?, tz2]); have hzl2 : w.heap.size < w2.heap.size := (by have := hB2.size; simp at this; omega); have HZ2 := Lib.hid tz2; have HB2 := Lib.hid hB2; clear hB2 tz2)
      try rw [Exit.noGoto_ret]
      refine bodyPost_ret (results_ctt rfl _ _ w.heap.size 44 zeroCells (0, 0) _ (.int .i64 c) (.int .i64 a) rfl rfl rfl (set5_same _ _ _ _ _ _ _ _ _ _ _ _ _ HZ2.out) Tryd.underlying44 rfl (by rw [tokSize]; rfl)) rfl ⟨?_, rfl⟩
      exact set5_below (((Below.refl _ _).alloc (Nat.le_refl _) _).trans (HB2.out.mono (by simp))) w.heap.size (Nat.le_refl _) _ _ _ _ _
  cases R with
  | open_ => exact fin 112 i (by decide) TC
  | byte p => exact fin 111 p (by decide) TC
  | esc p => exact fin 113 p (by decide) TC
  | done b e =>
    by_cases h127 : 127 < b.length
    · simp only [textV, if_pos h127] at TC
      simp only [strRes, if_pos h127]
      exact fin 115 i (by decide) TC
    · simp only [textV, if_neg h127] at TC
      simp only [strRes, if_neg h127]
      clear fin h127
      go_enter Tryd.func31, Tryd.ntmps31
      go_wp2_with (go_at_call 29; refine (TC.out _).mono ?_; rintro e w2 ⟨rfl, hB2⟩; have tz2 := (hB2.block w.heap.size (by simp)).trans TZ.out; have y0 : w2.cell? ⟨w.heap.size, 0, none⟩ = some (.int .i64 0) := (Lib.cell_of_heap tz2 _).trans rfl; have y1 : w2.cell? ⟨w.heap.size, 1, none⟩ = some (.string ⟨#[]⟩) := (Lib.cell_of_heap tz2 _).trans rfl; have y2 : w2.cell? ⟨w.heap.size, 2, none⟩ = some (.int .i64 0) := (Lib.cell_of_heap tz2 _).trans rfl; have y3 : w2.cell? ⟨w.heap.size, 3, none⟩ = some (.int .i64 0) := (Lib.cell_of_heap tz2 _).trans rfl; have y4 : w2.cell? ⟨w.heap.size, 4, none⟩ = some (.int .i64 0) := (Lib.cell_of_heap tz2 _).trans rfl; have yf : ∀ j, w2.frozen? ⟨w.heap.size, j, none⟩ = false := (fun j => by simp [World.frozen?, tz2]); have hzl2 : w.heap.size < w2.heap.size := (by have := hB2.size; simp at this; omega); have HZ2 := Lib.hid tz2; have HB2 := Lib.hid hB2; clear hB2 tz2)
      try rw [Exit.noGoto_ret]
      refine bodyPost_ret (results_ctt rfl _ _ w.heap.size 44 #[.int .i64 1, .string ⟨b.toArray⟩, .int .i64 0, .int .i64 i, .int .i64 e] (0, 0) _ (.int .i64 0) (.int .i64 0) rfl rfl rfl (set5_same _ _ _ _ _ _ _ _ _ _ _ _ _ HZ2.out) Tryd.underlying44 rfl (by rw [tokSize]; rfl)) rfl ⟨?_, rfl⟩
      exact set5_below (((Below.refl _ _).alloc (Nat.le_refl _) _).trans (HB2.out.mono (by simp))) w.heap.size (Nat.le_refl _) _ _ _ _ _

end Go.Proofs.YthcdmnndhjbbfaaDoor.X
