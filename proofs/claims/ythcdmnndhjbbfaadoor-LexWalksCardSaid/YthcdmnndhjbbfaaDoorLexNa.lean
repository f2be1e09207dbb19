/-
  The library's numerals as number meets them.
-/
import Derived.Test.YthcdmnndhjbbfaaDoorLexT
import Derived.Test.YthcdmnndhjbbfaaDoorShelf
import Derived.RegionTactic
import Derived.Deep.RegionWith
import Derived.Lib.AppendIntMem
import Derived.Deep.Cut
import Derived.Deep.CutBlock
import Derived.Deep.CutRange
import Derived.Deep.QuietTactic
import Derived.BigQuiet
set_option linter.unusedVariables false
set_option linter.unusedSimpArgs false
namespace Go.Proofs.YthcdmnndhjbbfaaDoor.X
open Go.RowKit
/-- What the library finds: its table, its two errors. -/
structure LW (w : World) : Prop where
  tab : Lib.TabIs Tryd.prog w "internal/strconv.uint64pow10" .u64 Lib.pow10Tab
  syn : ∃ tp p, w.var? Tryd.prog "strconv.ErrSyntax" = some #[.iface tp p]
  ran : ∃ tp p, w.var? Tryd.prog "strconv.ErrRange" = some #[.iface tp p]
  big : 8 < w.heap.size
theorem gTab : Tryd.prog.globalNamed "internal/strconv.uint64pow10" = some 0 := by kernel_rfl
theorem gSyn : Tryd.prog.globalNamed "strconv.ErrSyntax" = some 1 := by kernel_rfl
theorem gRan : Tryd.prog.globalNamed "strconv.ErrRange" = some 2 := by kernel_rfl
theorem LW.below {w w' : World} (h : LW w) (k : Below w.heap.size w w') : LW w' := by
  have hb := h.big
  obtain ⟨t1, p1, h1⟩ := h.syn
  obtain ⟨t2, p2, h2⟩ := h.ran
  exact ⟨var?_below k gTab (by omega) h.tab, ⟨t1, p1, var?_below k gSyn (by omega) h1⟩, ⟨t2, p2, var?_below k gRan (by omega) h2⟩, Nat.lt_of_lt_of_le hb k.size⟩
theorem itoa_c (n : Int) (h0 : -9223372036854775808 ≤ n) (h1 : n ≤ 9223372036854775807) (w : World) (h : LW w) :
    Calls Tryd.prog 25 #[.int .i64 n] w fun e w' => e = .returned (.string ⟨(Lib.itoa n).toArray⟩) ∧ Below w.heap.size w w' := by
  refine (Tryd.strconv_Itoa n h0 h1 w h.tab).mono ?_
  rintro e w' ⟨rfl, k, os, rfl⟩
  exact ⟨rfl, Lib.below_grow _ w (Nat.le_refl _) k os⟩

/-- How many word letters stand at the head from k on. -/
def twN (s : ByteArray) (k : Nat) : Nat := ((s.data.toList.drop k).takeWhile wordB).length
theorem twN_yes {s : ByteArray} {k : Nat} (h : k < s.size) (hw : wordB s[k] = true) : twN s k = twN s (k + 1) + 1 := by
  unfold twN; rw [drop_at s k h, List.takeWhile_cons, if_pos hw]; rfl
theorem twN_no {s : ByteArray} {k : Nat} (h : k < s.size) (hw : wordB s[k] = false) : twN s k = 0 := by
  unfold twN; rw [drop_at s k h, List.takeWhile_cons, if_neg (by simp [hw])]; rfl
theorem twN_end {s : ByteArray} {k : Nat} (h : s.size ≤ k) : twN s k = 0 := by
  unfold twN; rw [drop_end s k h]; rfl
theorem takeWhile_take (l : Bs) : l.takeWhile wordB = l.take (l.takeWhile wordB).length := by
  induction l with
  | nil => rfl
  | cons c l ih =>
    rw [List.takeWhile_cons]; split
    · simp only [List.length_cons, List.take_succ_cons]; rw [← ih]
    · rfl
theorem twN_le (s : ByteArray) (k : Nat) (h : k ≤ s.size) : k + twN s k ≤ s.size := by
  unfold twN
  have h1 : ((s.data.toList.drop k).takeWhile wordB).length ≤ (s.data.toList.drop k).length := (List.takeWhile_sublist _).length_le
  have h2 : (s.data.toList.drop k).length = s.size - k := by simp
  omega
/-- The run that begins at i. -/
theorem run_bytes (s : ByteArray) (i : Nat) (h : i < s.size) : (s.extract i (i + 1 + twN s (i + 1))).data.toList = runL (s.data.toList.drop i) := by
  simp only [ByteArray.data_extract, Array.toList_extract, List.extract_eq_take_drop]
  rw [drop_at s i h]
  simp only [runL]
  rw [show i + 1 + twN s (i + 1) - i = twN s (i + 1) + 1 by omega, List.take_succ_cons]
  congr 1
  exact (takeWhile_take _).symm
theorem run_len (s : ByteArray) (i : Nat) (h : i < s.size) : (runL (s.data.toList.drop i)).length = 1 + twN s (i + 1) := by
  rw [drop_at s i h]; simp only [runL, List.length_cons]; unfold twN; omega
theorem trim_minus (l : Bs) : Lib.trimPrefix l [45] = if l.head? = some 45 then l.tail else l := by
  unfold Lib.trimPrefix Lib.hasPrefix
  cases l with
  | nil => rfl
  | cons c l =>
    by_cases h : c = 45
    · subst h; simp [List.isPrefixOf]
    · have h2 : ¬ (45 : UInt8) = c := fun e => h e.symm
      simp [List.isPrefixOf, h, h2]
theorem numOf_eq (run : Bs) : numOf run = match Lib.atoiAll run with
    | .ok n => if Lib.itoa n = run ∧ (Lib.trimPrefix run [45]).length ≤ 18 then some n else none
    | _ => none := by
  unfold numOf
  rcases numEnd_cases (Lib.atoiAll run) with ⟨n, hr⟩ | hr | hr
  · rw [hr]; simp only [trim_minus]
  · rw [hr]
  · rw [hr]

/-- What number answers. -/
def numRes (run : Bs) (i : Nat) : Res := match numOf run with
  | some n => .ok ⟨2, [], n, i, i + run.length⟩
  | none => .error (114, i)

theorem extract_le (s : ByteArray) (i E : Nat) : (s.extract i E).size ≤ s.size := by
  rw [ByteArray.size_extract]; omega
theorem below_drewN {B : Nat} {w w' : World} (h : Below B w w') (n : Nat) : Below B w (w'.drewN n) := by
  induction n with
  | zero => exact h
  | succ n ih => exact ih.drew
/-- What Atoi answers. -/
def AtoiAns (w : World) (r : Lib.NumEnd Int) (e : Ending) (w' : World) : Prop := match r with
  | .ok v => e = .returned (.tuple #[.int .i64 v, .nilIface]) ∧ Below w.heap.size w w'
  | _ => ∃ x N, e = .returned (.tuple #[.int .i64 x, .iface 98 (.pointer (some ⟨N, 0, none⟩))]) ∧ Below w.heap.size w w'
theorem atoi_c (s : ByteArray) (hs : s.size ≤ 1000000000000) (w : World) (h : LW w) : Calls Tryd.prog 51 #[.string s] w (AtoiAns w (Lib.atoiAll s.data.toList)) := by
  rcases numEnd_cases (Lib.atoiAll s.data.toList) with ⟨v, hr⟩ | hr | hr
  · rw [hr]
    refine (Tryd.strconv_Atoi_ok s (by omega) v hr w).mono ?_
    rintro e w' ⟨he, hw⟩
    refine ⟨he, ?_⟩
    rcases hw with rfl | ⟨t, rfl⟩
    · exact Below.refl _ _
    exact Lib.bytesWorld_below _ _ _
  · rw [hr]
    obtain ⟨tp, p, hv⟩ := h.syn
    refine (Tryd.strconv_Atoi_syntax_var s (by omega) hr tp p w hv).mono ?_
    rintro e w' ⟨N, he, _, _, hb⟩
    exact ⟨_, N, he, hb⟩
  · rw [hr]
    obtain ⟨tp, p, hv⟩ := h.ran
    refine (Tryd.strconv_Atoi_range_var s (by omega) hr tp p w hv).mono ?_
    rintro e w' ⟨N, he, _, _, hb⟩
    exact ⟨_, N, he, hb⟩


end Go.Proofs.YthcdmnndhjbbfaaDoor.X
