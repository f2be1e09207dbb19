/-
  The fixed fact: a tree and its text.
-/
import Derived.Test.YteeojceloljcbaaDoorText
set_option linter.unusedVariables false
set_option linter.unusedSimpArgs false
namespace Go.Proofs.YteeojceloljcbaaDoor.H
open Go.RowKit Go.Proofs.YteeojceloljcbaaDoorW.PrintWords Go.Proofs.YteeojceloljcbaaDoorW.PrintLast Go.Proofs.YteeojceloljcbaaDoor.P
def awk : List Pt := [⟨1, ⟨#[]⟩, 0, []⟩, ⟨3, ⟨#[]⟩, 0, [0]⟩]
theorem awk_valid : validSpec awk = none := by rfl
theorem awk_nest : nestOf awk = 1 := by rfl
theorem awk_text : textSpec awk = ([33, 116, 114, 117, 101], none) := by rfl
theorem awk_F (W : World) (g h : Nat)
    (hg : W.heap[g]? = some (.cells #[.int .i64 1, .string ⟨#[]⟩, .int .i64 0, .slice none 0 0, .int .i64 3, .string ⟨#[]⟩, .int .i64 0, .slice (some ⟨h, 0, none⟩) 1 1] 45 (0, 0)))
    (hh : W.heap[h]? = some (.cells #[.int .i64 0] 3 (0, 0))) : Kd.F k45 W (fun _ => True) (some ⟨g, 0, none⟩) 2 awk := by
  intro W' hW
  have hg' := (hW g trivial (Array.getElem?_eq_some_iff.1 hg).1).trans hg
  have hh' := (hW h trivial (Array.getElem?_eq_some_iff.1 hh).1).trans hh
  refine ⟨rfl, by decide, fun _ => ⟨_, rfl, fun j p hp => ?_⟩⟩
  match j, hp with
  | 0, hp =>
    obtain rfl := Option.some.inj hp
    refine ⟨_, rfl, k45_mk W' ⟨1, ⟨#[]⟩, 0, []⟩ (A3 := none) (c3 := 0) (Nat.le_refl _) (Kd.C_nil _ _), fun i u hu => ?_⟩
    match i, hu with
    | 0, hu => obtain rfl := Option.some.inj hu; show W'.cell? ⟨g, 0, none⟩ = _; rw [Lib.cell_of_heap hg']; rfl
    | 1, hu => obtain rfl := Option.some.inj hu; show W'.cell? ⟨g, 1, none⟩ = _; rw [Lib.cell_of_heap hg']; rfl
    | 2, hu => obtain rfl := Option.some.inj hu; show W'.cell? ⟨g, 2, none⟩ = _; rw [Lib.cell_of_heap hg']; rfl
    | 3, hu => obtain rfl := Option.some.inj hu; show W'.cell? ⟨g, 3, none⟩ = _; rw [Lib.cell_of_heap hg']; rfl
  | 1, hp =>
    obtain rfl := Option.some.inj hp
    have hk : (Kd.int .i64).C W' (some ⟨h, 0, none⟩) 1 [0] := by
      refine ⟨rfl, by decide, fun _ => ⟨_, rfl, fun j p hp => ?_⟩⟩
      match j, hp with
      | 0, hp =>
        obtain rfl := Option.some.inj hp
        refine ⟨[.int .i64 0], rfl, rfl, fun i u hu => ?_⟩
        match i, hu with
        | 0, hu => obtain rfl := Option.some.inj hu; show W'.cell? ⟨h, 0, none⟩ = _; rw [Lib.cell_of_heap hh']; rfl
    refine ⟨_, rfl, k45_mk W' ⟨3, ⟨#[]⟩, 0, [0]⟩ (A3 := some ⟨h, 0, none⟩) (c3 := 1) (Nat.le_refl _) hk, fun i u hu => ?_⟩
    match i, hu with
    | 0, hu => obtain rfl := Option.some.inj hu; show W'.cell? ⟨g, 4, none⟩ = _; rw [Lib.cell_of_heap hg']; rfl
    | 1, hu => obtain rfl := Option.some.inj hu; show W'.cell? ⟨g, 5, none⟩ = _; rw [Lib.cell_of_heap hg']; rfl
    | 2, hu => obtain rfl := Option.some.inj hu; show W'.cell? ⟨g, 6, none⟩ = _; rw [Lib.cell_of_heap hg']; rfl
    | 3, hu => obtain rfl := Option.some.inj hu; show W'.cell? ⟨g, 7, none⟩ = _; rw [Lib.cell_of_heap hg']; rfl

/-- The world with the fixed tree in it. -/
def awkW (w : World) : World := ((w.alloc (.cells #[.int .i64 0] 3)).alloc (.cells #[.int .i64 1, .string ⟨#[]⟩, .int .i64 0, .slice none 0 0, .int .i64 3, .string ⟨#[]⟩, .int .i64 0, .slice (some ⟨w.heap.size, 0, none⟩) 1 1] 45)).alloc (.cells #[.slice (some ⟨w.heap.size + 1, 0, none⟩) 2 2] 24)
theorem awkW_below (w : World) : Below w.heap.size w (awkW w) := (((Below.refl _ _).alloc (Nat.le_refl _) _).alloc (by simp) _).alloc (by simp; omega) _
theorem awkW_F (w : World) : Kd.F k45 (awkW w) (fun _ => True) (some ⟨w.heap.size + 1, 0, none⟩) 2 awk := by
  refine awk_F (awkW w) (w.heap.size + 1) w.heap.size ?_ ?_
  · unfold awkW
    rw [Below.heap_alloc _ _ _ (by simp)]
    have := Go.heap_alloc_new (w.alloc (.cells #[.int .i64 0] 3)) (.cells #[.int .i64 1, .string ⟨#[]⟩, .int .i64 0, .slice none 0 0, .int .i64 3, .string ⟨#[]⟩, .int .i64 0, .slice (some ⟨w.heap.size, 0, none⟩) 1 1] 45)
    simpa using this
  · unfold awkW
    rw [Below.heap_alloc _ _ _ (by simp; omega), Below.heap_alloc _ _ _ (by simp)]
    exact Go.heap_alloc_new _ _
theorem awkW_cell (w : World) : (awkW w).cell? ⟨w.heap.size + 1 + 1, 0, none⟩ = some (.slice (some ⟨w.heap.size + 1, 0, none⟩) 2 2) := by
  unfold awkW
  have := Go.heap_alloc_new ((w.alloc (.cells #[.int .i64 0] 3)).alloc (.cells #[.int .i64 1, .string ⟨#[]⟩, .int .i64 0, .slice none 0 0, .int .i64 3, .string ⟨#[]⟩, .int .i64 0, .slice (some ⟨w.heap.size, 0, none⟩) 1 1] 45)) (.cells #[.slice (some ⟨w.heap.size + 1, 0, none⟩) 2 2] 24)
  rw [Lib.cell_of_heap (by simpa using this)]
  rfl
set_option maxHeartbeats 4000000 in
set_option maxRecDepth 100000 in
theorem awake_true (w : World) (ht : Lib.TabIs Tryd.prog w "internal/strconv.uint64pow10" .u64 Lib.pow10Tab) (hg : 0 < w.heap.size) :
    Calls Tryd.prog 8 #[] w fun e w' => e = .returned (.bool true) ∧ Below w.heap.size w w' := by
  have HT := Lib.hid ht
  have HG := Lib.hid hg
  have HX := Lib.hid (fun W A c h1 h2 h3 h4 => show_text A c awk W h1 h2 h3 h4)
  have HN := Lib.hid (fun W A c h1 h2 => show_nest A c awk W h1 h2)
  rw [awk_text] at HX
  rw [awk_valid, awk_nest] at HN
  clear ht hg
  go_enter Tryd.func8, Tryd.ntmps8
  go_wp2_with fail
  show Calls Tryd.prog 15 #[.agg #[.slice (some ⟨w.heap.size + 1, 0, none⟩) 2 2]] (awkW w) _
  have KB := Lib.hid (awkW_below w)
  have KF := Lib.hid (awkW_F w)
  have KC := Lib.hid (awkW_cell w)
  generalize awkW w = w0 at *
  refine (HX.out w0 _ 2 KF.out (by decide) (var?_below KB.out gTab HG.out HT.out) (Nat.lt_of_lt_of_le HG.out KB.out.size)).mono ?_
  rintro e w1 ⟨v, rfl, hE, hB⟩
  cases hE
  have HB := Lib.hid hB
  have hc1 : w1.cell? ⟨w.heap.size + 1 + 1, 0, none⟩ = some (.slice (some ⟨w.heap.size + 1, 0, none⟩) 2 2) := pw_cell_below hB KC.out
  clear hB
  go_wp2_with (go_at_call 13; refine (HN.out w1 _ 2 (Kd.C_below (Kd.F_now KF.out) HB.out) (by decide)).mono ?_; rintro e w2 ⟨v, rfl, hE, hB2⟩; cases hE)
  go_ret
  exact ⟨rfl, below_then KB.out KB.out.size (below_then HB.out HB.out.size hB2)⟩

end Go.Proofs.YteeojceloljcbaaDoor.H
