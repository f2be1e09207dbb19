/-
  Tokens, as plain functions of a list of bytes: what the document's chapter says. No condition.
-/
import Derived.Lib.ItoaLen
import Derived.Lib.AtoiAll
set_option linter.unusedVariables false
set_option linter.unusedSimpArgs false
namespace Go.Proofs.YthcdmnndhjbbfaaDoor.X
abbrev Bs := List UInt8
def digB (c : UInt8) : Bool := 48 ≤ c && c ≤ 57
def wordB (c : UInt8) : Bool := digB c || (97 ≤ c && c ≤ 122) || (65 ≤ c && c ≤ 90) || c == 95
def hexB (c : UInt8) : Bool := digB c || (97 ≤ c && c ≤ 102) || (65 ≤ c && c ≤ 70)
def hexV (c : UInt8) : UInt8 := if digB c then c - 48 else if 97 ≤ c && c ≤ 102 then c - 87 else c - 55
def blankB (c : UInt8) : Bool := c == 32 || c == 9 || c == 10 || c == 13

/-- How many bytes of blanks and remarks stand at the head (r: in a remark). -/
def gapN : Bool → Bs → Nat
  | _, [] => 0
  | true, c :: l => if c = 10 then gapN false l + 1 else gapN true l + 1
  | false, c :: l => if blankB c then gapN false l + 1 else if c = 35 then gapN true l + 1 else 0

/-- What a text in quotes comes to, read from behind its first quote on. -/
inductive StrR where
  | open_
  | byte (at_ : Nat)
  | esc (at_ : Nat)
  | done (b : Bs) (end_ : Nat)
/-- off: the place of the head; acc: what has been read. -/
def strL : Bs → Nat → Bs → StrR
  | [], _, _ => .open_
  | c :: l, off, acc =>
    if c = 34 then .done acc (off + 1)
    else if c < 32 then .byte off
    else if c = 92 then
      match l with
      | [] => .esc off
      | e :: l =>
        if e = 34 ∨ e = 92 then strL l (off + 2) (acc ++ [e])
        else if e = 110 then strL l (off + 2) (acc ++ [10])
        else if e = 116 then strL l (off + 2) (acc ++ [9])
        else if e = 114 then strL l (off + 2) (acc ++ [13])
        else if e = 120 then
          match l with
          | h1 :: h2 :: l => if hexB h1 && hexB h2 then strL l (off + 4) (acc ++ [16 * hexV h1 + hexV h2]) else .esc off
          | _ => .esc off
        else .esc off
    else strL l (off + 1) (acc ++ [c])

/-- A token: kind, text, number, where it begins and ends. -/
structure Tk where
  kind : Int
  text : Bs
  num : Int
  at_ : Nat
  end_ : Nat
deriving DecidableEq
/-- A token, or a fault's code and place. -/
abbrev Res := Except (Int × Nat) Tk
/-- The text in quotes whose first quote stands at i. -/
def textAt (l : Bs) (i : Nat) : Res := match strL (l.drop (i + 1)) (i + 1) [] with
  | .open_ => .error (112, i)
  | .byte p => .error (111, p)
  | .esc p => .error (113, p)
  | .done b e => if 127 < b.length then .error (115, i) else .ok ⟨1, b, 0, i, e⟩
/-- The three ends of a numeral's reading. -/
abbrev synE {α : Type} : Lib.NumEnd α := Lib.NumEnd.«syntax»
theorem numEnd_cases {α : Type} (r : Lib.NumEnd α) : (∃ v, r = .ok v) ∨ r = synE ∨ r = .range := by cases r <;> simp
/-- The number that a run of bytes writes canonically. -/
def numOf (run : Bs) : Option Int := match Lib.atoiAll run with
  | .ok n => if Lib.itoa n = run ∧ (if run.head? = some 45 then run.tail else run).length ≤ 18 then some n else none
  | _ => none
/-- The run of letters, digits and underlines at the head; a minus ahead of them belongs to it. -/
def runL : Bs → Bs
  | [] => []
  | c :: l => c :: l.takeWhile wordB
def marksL : List Bs := [[38, 38], [124, 124], [61, 61], [33, 61], [60, 61], [62, 61], [33], [60], [62], [40], [41], [91], [93], [123], [125], [44], [46]]
def findMark (l : Bs) : List Bs → Option Bs
  | [] => none
  | m :: ms => if m.isPrefixOf l then some m else findMark l ms
/-- The token that begins at i, where no gap stands. -/
def tokAt (l : Bs) (i : Nat) : Res := match l.drop i with
  | [] => .ok ⟨0, [], 0, l.length, l.length⟩
  | c :: r =>
    if c = 34 then textAt l i
    else if digB c || (c == 45 && (match r with | d :: _ => digB d | [] => false)) then
      match numOf (runL (c :: r)) with
      | some n => .ok ⟨2, [], n, i, i + (runL (c :: r)).length⟩
      | none => .error (114, i)
    else if wordB c then .ok ⟨3, runL (c :: r), 0, i, i + (runL (c :: r)).length⟩
    else match findMark (c :: r) marksL with
      | some m => .ok ⟨4, m, 0, i, i + m.length⟩
      | none => .error (111, i)
/-- Tokens from i on, at most n of them: up to the end or the first fault. -/
def scanN (l : Bs) : Nat → Nat → List Tk × Option (Int × Nat)
  | 0, _ => ([], none)
  | n + 1, i => match tokAt l (i + gapN false (l.drop i)) with
    | .error f => ([], some f)
    | .ok t => if t.kind = 0 then ([t], none) else (t :: (scanN l n t.end_).1, (scanN l n t.end_).2)
/-- The tokens ahead of the first fault, the fault. -/
def prefixL (l : Bs) : List Tk × Option (Int × Nat) := if 4096 < l.length then ([], some (110, 4096)) else scanN l (l.length + 1) 0
def scanL (l : Bs) : List Tk × Option (Int × Nat) := if (prefixL l).2.isSome then ([], (prefixL l).2) else prefixL l

/-! ### Bounds -/
theorem gapN_le : ∀ (b : Bool) (l : Bs), gapN b l ≤ l.length
  | b, [] => by cases b <;> simp [gapN]
  | true, c :: l => by
    have h1 := gapN_le false l
    have h2 := gapN_le true l
    simp only [gapN]; split <;> simp <;> omega
  | false, c :: l => by
    have h1 := gapN_le false l
    have h2 := gapN_le true l
    simp only [gapN]; split
    · simp; omega
    · split <;> simp; omega

end Go.Proofs.YthcdmnndhjbbfaaDoor.X
