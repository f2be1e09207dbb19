/-
  A tree's text as a function of its parts.
-/
import Derived.Test.YteeojceloljcbaaDoorShapeL
import Derived.Test.YteeojceloljcbaaDoorShelf
set_option linter.unusedVariables false
set_option linter.unusedSimpArgs false
namespace Go.Proofs.YteeojceloljcbaaDoor.P
open Go.RowKit Go.Proofs.YteeojceloljcbaaDoorW.PrintWords Go.Proofs.YteeojceloljcbaaDoorW.PrintLast
abbrev Bs := List UInt8
def hexT (x : UInt8) : UInt8 := if x < 10 then 48 + x else 87 + x
def qbyte (x : UInt8) : Bs :=
  if x = 34 ∨ x = 92 then [92, x] else if x = 10 then [92, 110] else if x = 9 then [92, 116] else if x = 13 then [92, 114]
  else if x < 32 ∨ 126 < x then [92, 120, hexT (x / 16), hexT (x % 16)] else [x]
/-- The one text in quotes. -/
def quoteT (s : ByteArray) : Bs := 34 :: (s.data.toList.flatMap qbyte ++ [34])

def oneT (l0 : List Pt) (p : Pt) (f : Int → Bs) (k : Int) : Bs := if brackB p.f0 (rd_T45 l0 k).f0 then 40 :: (f k ++ [41]) else f k
def joinT (l0 : List Pt) (p : Pt) (sep : Bs) (f : Int → Bs) : List Int → Bs
  | [] => []
  | k :: ks => oneT l0 p f k ++ ks.flatMap (fun k => sep ++ oneT l0 p f k)
theorem joinT_succ (l0 : List Pt) (p : Pt) (sep : Bs) (f : Int → Bs) (ks : List Int) (k : Nat) (h : k < ks.length) :
    joinT l0 p sep f (ks.take (k + 1)) = joinT l0 p sep f (ks.take k) ++ ((if k = 0 then [] else sep) ++ oneT l0 p f ks[k]) := by
  cases ks with
  | nil => simp at h
  | cons a ks =>
    cases k with
    | zero => simp [joinT]
    | succ k =>
      simp only [List.take_succ_cons, joinT, List.getElem_cons_succ]
      have hk : k < ks.length := by simpa using h
      rw [List.take_succ_eq_append_getElem hk, List.flatMap_append, List.flatMap_singleton]
      simp
theorem joinT_take_le (l0 : List Pt) (p : Pt) (sep : Bs) (f : Int → Bs) (ks : List Int) (k : Nat) : (joinT l0 p sep f (ks.take k)).length ≤ (joinT l0 p sep f ks).length := by
  cases ks with
  | nil => simp
  | cons a ks =>
    cases k with
    | zero => simp [joinT]
    | succ k =>
      simp only [List.take_succ_cons, joinT, List.length_append]
      have : ks.flatMap (fun k => sep ++ oneT l0 p f k) = (ks.take k).flatMap (fun k => sep ++ oneT l0 p f k) ++ (ks.drop k).flatMap (fun k => sep ++ oneT l0 p f k) := by
        rw [← List.flatMap_append, List.take_append_drop]
      rw [this, List.length_append]; omega

def sideT (n : Int) : Bs := if n = 1 then [112, 111, 100] else if n = 2 then [110, 111, 100, 101] else [105, 116]
def cmpT (n : Int) : Bs := if n = 1 then [61, 61] else if n = 2 then [33, 61] else if n = 3 then [60] else if n = 4 then [60, 61] else if n = 5 then [62] else [62, 61]
/-- near, apart, count. -/
def selT (l0 : List Pt) (p : Pt) (f : Int → Bs) (word : Bs) : Bs := word ++ [40] ++ quoteT p.f1 ++ [44, 32] ++ joinT l0 p [] f p.f3 ++ [41]
def termT (l0 : List Pt) (p : Pt) (f : Int → Bs) : Bs :=
  if p.f0 = 10 then [116, 111, 108, 101, 114, 97, 116, 101, 100, 40] ++ quoteT p.f1 ++ [41]
  else if p.f0 = 11 then quoteT p.f1
  else if p.f0 = 12 then Lib.itoa p.f2
  else if p.f0 = 13 then [123] ++ joinT l0 p [44, 32] f p.f3 ++ [125]
  else if p.f0 = 14 then sideT p.f2 ++ [91] ++ quoteT p.f1 ++ [93]
  else if p.f0 = 15 then sideT p.f2 ++ [46, 110, 97, 109, 101]
  else if p.f0 = 16 then sideT p.f2 ++ [46, 107, 101, 121, 115]
  else if p.f0 = 17 then sideT p.f2 ++ [46, 116, 97, 105, 110, 116, 115]
  else if p.f0 = 18 then sideT p.f2 ++ [46, 99, 97, 112, 40] ++ quoteT p.f1 ++ [41]
  else if p.f0 = 19 then [105, 110, 116, 40] ++ joinT l0 p [] f p.f3 ++ [41]
  else []
def partT (l0 : List Pt) (p : Pt) (f : Int → Bs) : Bs :=
  if p.f0 = 1 then [116, 114, 117, 101]
  else if p.f0 = 2 then [102, 97, 108, 115, 101]
  else if p.f0 = 3 then [33] ++ joinT l0 p [] f p.f3
  else if p.f0 = 4 then joinT l0 p [32, 38, 38, 32] f p.f3
  else if p.f0 = 5 then joinT l0 p [32, 124, 124, 32] f p.f3
  else if p.f0 = 6 then joinT l0 p ([32] ++ cmpT p.f2 ++ [32]) f p.f3
  else if p.f0 = 7 then (if p.f2 = 0 then joinT l0 p [32, 105, 110, 32] f p.f3 else joinT l0 p [32, 110, 111, 116, 105, 110, 32] f p.f3)
  else if p.f0 = 8 then selT l0 p f [110, 101, 97, 114]
  else if p.f0 = 9 then selT l0 p f [97, 112, 97, 114, 116]
  else if p.f0 = 20 then selT l0 p f [99, 111, 117, 110, 116]
  else termT l0 p f
/-- The text of the part at a place (n: how deep at most). -/
def rend (l0 : List Pt) : Nat → Int → Bs
  | 0, _ => []
  | n + 1, at_ => partT l0 (rd_T45 l0 at_) (rend l0 n)

end Go.Proofs.YteeojceloljcbaaDoor.P
