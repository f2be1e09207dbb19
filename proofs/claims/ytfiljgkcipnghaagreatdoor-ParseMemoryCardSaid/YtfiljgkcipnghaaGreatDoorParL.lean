/-
  A source's tree, as plain functions of its tokens: the descent. Places are tokens' numbers (at the end: their places in the source). No condition.
-/
import Derived.Test.YtfiljgkcipnghaaGreatDoorLexL
set_option linter.unusedVariables false
set_option linter.unusedSimpArgs false
namespace Go.Proofs.YtfiljgkcipnghaaGreatDoor.X
/-- A part of a tree. -/
structure PD where
  kind : Int
  text : Bs
  num : Int
  kids : List Nat
deriving DecidableEq
/-- Where the descent stands: the next token, what stands open, the parts, their places. -/
structure PS where
  pos : Nat
  nest : Nat
  parts : List PD
  offs : List Nat
/-- A fault's code and place. -/
abbrev PF := Int × Nat
abbrev PR (α : Type) := Except PF (α × PS)
def endT : Tk := ⟨0, [], 0, 0, 0⟩
def pk (ts : List Tk) (S : PS) : Tk := ts.getD S.pos endT
def wrongP (ts : List Tk) (S : PS) : PF := if (pk ts S).kind = 0 then (121, S.pos) else (120, S.pos)
def isT (ts : List Tk) (S : PS) (kind : Int) (text : Bs) : Bool := (pk ts S).kind == kind && (pk ts S).text == text
/-- One token on. -/
def on (S : PS) : PS := { S with pos := S.pos + 1 }
def markP (ts : List Tk) (text : Bs) (S : PS) : Except PF PS := if isT ts S 4 text then .ok (on S) else .error (wrongP ts S)
def openP (ts : List Tk) (text : Bs) (S : PS) : Except PF PS :=
  if isT ts S 4 text then (if S.nest = 32 then .error (122, S.pos) else .ok { S with pos := S.pos + 1, nest := S.nest + 1 }) else .error (wrongP ts S)
def closeN (S : PS) : PS := { S with nest := S.nest - 1 }
def shutP (ts : List Tk) (S : PS) : Except PF PS := match markP ts [41] S with
  | .error f => .error f
  | .ok S' => .ok (closeN S')
def textP (ts : List Tk) (S : PS) : PR Bs := if (pk ts S).kind = 1 then .ok ((pk ts S).text, on S) else .error (wrongP ts S)
def putS (at_ : Nat) (p : PD) (S : PS) : PS := { S with parts := S.parts ++ [p], offs := S.offs ++ [at_] }
def putP (at_ : Nat) (p : PD) (S : PS) : PR Nat := .ok (S.parts.length, putS at_ p S)
/-- Further things of a list, a mark between each two. -/
def listLoop (ts : List Tk) (between : Bs) (one : PS → PR Nat) : Nat → List Nat → PS → PR (List Nat)
  | 0, kids, S => .ok (kids, S)
  | n + 1, kids, S => if isT ts S 4 between then (match one (on S) with
      | .error f => .error f
      | .ok (i, S') => listLoop ts between one n (kids ++ [i]) S') else .ok (kids, S)
def listEnd (kind : Int) (at_ : Nat) (first : Nat) : PR (List Nat) → PR Nat
  | .error f => .error f
  | .ok (kids, S) => if kids.length = 1 then .ok (first, S) else putP at_ ⟨kind, [], 0, kids⟩ S
def listP (ts : List Tk) (between : Bs) (kind : Int) (one : PS → PR Nat) (S : PS) : PR Nat := match one S with
  | .error f => .error f
  | .ok (first, S1) => listEnd kind S1.pos first (listLoop ts between one 5000 [first] S1)
/-- What stands one deeper. -/
structure Lv where
  expr : PS → PR Nat
  unit : PS → PR Nat
  term : PS → PR Nat
def bindS {α β : Type} (x : PR α) (f : α → PS → PR β) : PR β := match x with
  | .error e => .error e
  | .ok (a, S) => f a S
def thenS {β : Type} (x : Except PF PS) (f : PS → PR β) : PR β := match x with
  | .error e => .error e
  | .ok S => f S
/-- A key and a selector in parentheses. -/
def scopedP (ts : List Tk) (lo : Lv) (kind : Int) (S : PS) : PR Nat :=
  thenS (openP ts [40] (on S)) fun S1 => bindS (textP ts S1) fun key S2 => thenS (markP ts [44] S2) fun S3 => bindS (lo.expr S3) fun kid S4 => thenS (shutP ts S4) fun S5 =>
    putP S.pos ⟨kind, key, 0, [kid]⟩ S5
def setLoop (ts : List Tk) : Nat → List Nat → PS → PR (List Nat)
  | 0, kids, S => .ok (kids, S)
  | n + 1, kids, S => if isT ts S 4 [125] then .ok (kids, S) else
      thenS (if 0 < kids.length then markP ts [44] S else .ok S) fun S1 =>
        if (pk ts S1).kind ≠ 1 ∧ (pk ts S1).kind ≠ 2 then .error (wrongP ts S1)
        else if kids.length = 64 then .error (124, S1.pos)
        else if (pk ts S1).kind = 1 then setLoop ts n (kids ++ [S1.parts.length]) (putS S1.pos ⟨11, (pk ts S1).text, 0, []⟩ (on S1))
        else setLoop ts n (kids ++ [S1.parts.length]) (putS S1.pos ⟨12, [], (pk ts S1).num, []⟩ (on S1))
def setP (ts : List Tk) (S : PS) : PR Nat :=
  thenS (markP ts [123] S) fun S1 => bindS (setLoop ts 5000 [] S1) fun kids S2 => putP S.pos ⟨13, [], 0, kids⟩ (on S2)
/-- Whose a word says. -/
def sideP (word : Bs) : Int := if word = [110, 111, 100, 101] then 2 else if word = [112, 111, 100] then 1 else if word = [105, 116] then 3 else 0
/-- A field of the node, the pod, the bound pod: behind the point. -/
def ownN (ts : List Tk) (at_ : Nat) (of_ : Int) (S : PS) : PR Nat :=
  if isT ts S 3 [110, 97, 109, 101] then putP at_ ⟨15, [], of_, []⟩ (on S)
  else if isT ts S 3 [107, 101, 121, 115] then putP at_ ⟨16, [], of_, []⟩ (on S)
  else if isT ts S 3 [116, 97, 105, 110, 116, 115] then putP at_ ⟨17, [], of_, []⟩ (on S)
  else if isT ts S 3 [99, 97, 112] then
    thenS (markP ts [40] (on S)) fun S3 => bindS (textP ts S3) fun s S4 => thenS (markP ts [41] S4) fun S5 => putP at_ ⟨18, s, of_, []⟩ S5
  else .error (wrongP ts S)
/-- A label or a field: behind the word. -/
def ownK (ts : List Tk) (at_ : Nat) (of_ : Int) (S : PS) : PR Nat :=
  if isT ts S 4 [91] then bindS (textP ts (on S)) fun s S2 => thenS (markP ts [93] S2) fun S3 => putP at_ ⟨14, s, of_, []⟩ S3
  else if isT ts S 4 [46] then ownN ts at_ of_ (on S)
  else .error (wrongP ts S)
def ownedP (ts : List Tk) (S : PS) : PR Nat :=
  if (pk ts S).kind ≠ 3 ∨ sideP (pk ts S).text = 0 then .error (wrongP ts S) else ownK ts S.pos (sideP (pk ts S).text) (on S)
/-- What stands on a side. -/
def termP (ts : List Tk) (lo : Lv) (S : PS) : PR Nat :=
  let k := pk ts S
  if k.kind = 1 then putP S.pos ⟨11, k.text, 0, []⟩ (on S)
  else if k.kind = 2 then putP S.pos ⟨12, [], k.num, []⟩ (on S)
  else if isT ts S 4 [123] then setP ts S
  else if isT ts S 3 [105, 110, 116] then
    thenS (openP ts [40] (on S)) fun S1 => bindS (lo.term S1) fun kid S2 => thenS (shutP ts S2) fun S3 => putP S.pos ⟨19, [], 0, [kid]⟩ S3
  else if isT ts S 3 [99, 111, 117, 110, 116] then scopedP ts lo 20 S
  else ownedP ts S
/-- The mark or word between two terms: the kind, the number. -/
def relationP (ts : List Tk) (S : PS) : PR (Int × Int) :=
  if isT ts S 4 [61, 61] then .ok ((6, 1), on S)
  else if isT ts S 4 [33, 61] then .ok ((6, 2), on S)
  else if isT ts S 4 [60] then .ok ((6, 3), on S)
  else if isT ts S 4 [60, 61] then .ok ((6, 4), on S)
  else if isT ts S 4 [62] then .ok ((6, 5), on S)
  else if isT ts S 4 [62, 61] then .ok ((6, 6), on S)
  else if isT ts S 3 [105, 110] then .ok ((7, 0), on S)
  else if isT ts S 3 [110, 111, 116, 105, 110] then .ok ((7, 1), on S)
  else .error (wrongP ts S)
def cmpP (ts : List Tk) (lo : Lv) (S : PS) : PR Nat :=
  bindS (termP ts lo S) fun left S1 => bindS (relationP ts S1) fun kn S2 => bindS (termP ts lo S2) fun right S3 => putP S1.pos ⟨kn.1, [], kn.2, [left, right]⟩ S3
/-- A word's condition, a comparison or a membership. -/
def atomP (ts : List Tk) (lo : Lv) (S : PS) : PR Nat :=
  let k := pk ts S
  if k.kind = 3 then
    if k.text = [116, 114, 117, 101] then putP S.pos ⟨1, [], 0, []⟩ (on S)
    else if k.text = [102, 97, 108, 115, 101] then putP S.pos ⟨2, [], 0, []⟩ (on S)
    else if k.text = [110, 101, 97, 114] then scopedP ts lo 8 S
    else if k.text = [97, 112, 97, 114, 116] then scopedP ts lo 9 S
    else if k.text = [116, 111, 108, 101, 114, 97, 116, 101, 100] then
      thenS (markP ts [40] (on S)) fun S1 => bindS (textP ts S1) fun s S2 => thenS (markP ts [41] S2) fun S3 => putP S.pos ⟨10, s, 0, []⟩ S3
    else cmpP ts lo S
  else cmpP ts lo S
/-- A negation, a group or an atom. -/
def unitP (ts : List Tk) (lo : Lv) (S : PS) : PR Nat :=
  if isT ts S 4 [33] then thenS (openP ts [33] S) fun S1 => bindS (lo.unit S1) fun kid S2 => putP S.pos ⟨3, [], 0, [kid]⟩ (closeN S2)
  else if isT ts S 4 [40] then thenS (openP ts [40] S) fun S1 => bindS (lo.expr S1) fun kid S2 => thenS (shutP ts S2) fun S3 => .ok (kid, S3)
  else atomP ts lo S
def conjP (ts : List Tk) (lo : Lv) (S : PS) : PR Nat := listP ts [38, 38] 4 (unitP ts lo) S
def exprP (ts : List Tk) (lo : Lv) (S : PS) : PR Nat := listP ts [124, 124] 5 (conjP ts lo) S
/-- Nothing may be opened (the nest bars it ahead of this). -/
def noLv : Lv := ⟨fun S => .error (0, S.pos), fun S => .error (0, S.pos), fun S => .error (0, S.pos)⟩
/-- So many may still be opened. -/
def lv (ts : List Tk) : Nat → Lv
  | 0 => ⟨exprP ts noLv, unitP ts noLv, termP ts noLv⟩
  | d + 1 => ⟨exprP ts (lv ts d), unitP ts (lv ts d), termP ts (lv ts d)⟩
/-- The tree of a row of tokens. -/
def treeOf (ts : List Tk) : Except PF (List PD × List Nat) := match (lv ts 32).expr ⟨0, 0, [], []⟩ with
  | .error f => .error f
  | .ok (_, S) => if (pk ts S).kind = 0 then (if 1000 < S.parts.length then .error (123, S.offs.getD 1000 0) else .ok (S.parts, S.offs)) else .error (wrongP ts S)
def placeT (ts : List Tk) (i : Nat) : Nat := (ts.getD i endT).at_
/-- The tree of a source; places in the source. -/
def parseL (l : Bs) : Except PF (List PD × List Nat) := match scanL l with
  | (_, some f) => .error f
  | (ts, none) => match treeOf ts with
    | .error f => .error (f.1, placeT ts f.2)
    | .ok (ps, offs) => .ok (ps, offs.map (placeT ts))

end Go.Proofs.YtfiljgkcipnghaaGreatDoor.X
