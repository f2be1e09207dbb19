/-
  No cell of these rows narrows 'for every input' (looked for: loops, veiled, ifaces, maps, wideKeys, modest, calm, conditions, laid).
  DERIVED. THE GIVEN ROWS OF THIS SEAT. 5 by the template 'for every input the law returns true; each argument reads behind the call as it read before'; 0 by the template 'total and deterministic' (their statements: YteeojceloljcbaaTotals.lean).
  GIVEN WITH THE SEED: the statements are not yours to turn. If you find one false, say at which input.
  Laid BY PROGRAM, IN A SANDBOX (cutbox-rows.mjs): the forced cells as the released guide's own fill.sh prints them over the translation 210b071cbd074b87… (all of the seat's roots in one cut). By AI agents, Wed Nov 11 2026. No macro, syntax, notation, axiom, sorry.
-/
import Derived.Test.YteeojceloljcbaaChecked
import GoSem.Claim
import GoSem.ClaimJoined
import GoSem.ClaimMapViews
import Derived.JoinedTies
import Derived.KernelRfl
namespace Go.Proofs.Yteeojceloljcbaa
/- THE CELL 'sum', in the pinned program and in every row, IS THE sha256 OF THE DUMP (.gsa) THAT YteeojceloljcbaaProg.lean LOADS. Nothing in Lean hashes anything: it is a label: what it is worth is what the hold of that sum in a sandbox is worth. -/
noncomputable def Try.pinned : Pinned := { name := "yteeojceloljcbaa", sum := "210b071cbd074b877502c5980da8c5400ea02b441496967fc95488790e392e6d", checked := Try.checked }
namespace Rows
def none {H : Type} : Left H := { results := [], args := [] }

/-- 'berthlaw11.LexNames': WHATEVER THE INPUT: true; the input reads as it did. -/
def lexNamesSpec : ChangeSpec := { name := "lexNames", fn := fun _ => fun
  | [] => { results := [.lit (.bool true)], args := [] }
  | _ => none }
def lexNamesRow : OpenClaim := { program := "yteeojceloljcbaa", sum := "210b071cbd074b877502c5980da8c5400ea02b441496967fc95488790e392e6d", func := "berth/berthlaw11.LexNames", spec := "lexNames", apart := false }
def LexNamesSaid : Prop := lexNamesRow.holds Try.pinned (OpenSpec.ofChange lexNamesSpec)

/-- ITS FALSE NEIGHBOUR: 'it returns false'. Refute it at one input. -/
def lexNamesWrong : ChangeSpec := { name := "lexNames", fn := fun _ => fun
  | [] => { results := [.lit (.bool false)], args := [] }
  | _ => none }
def LexNamesWrongFalsely : Prop := lexNamesRow.holds Try.pinned (OpenSpec.ofChange lexNamesWrong)

/-- 'berthlaw12.ParseNames': WHATEVER THE INPUT: true; the input reads as it did. -/
def parseNamesSpec : ChangeSpec := { name := "parseNames", fn := fun _ => fun
  | [] => { results := [.lit (.bool true)], args := [] }
  | _ => none }
def parseNamesRow : OpenClaim := { program := "yteeojceloljcbaa", sum := "210b071cbd074b877502c5980da8c5400ea02b441496967fc95488790e392e6d", func := "berth/berthlaw12.ParseNames", spec := "parseNames", apart := false }
def ParseNamesSaid : Prop := parseNamesRow.holds Try.pinned (OpenSpec.ofChange parseNamesSpec)

/-- ITS FALSE NEIGHBOUR: 'it returns false'. Refute it at one input. -/
def parseNamesWrong : ChangeSpec := { name := "parseNames", fn := fun _ => fun
  | [] => { results := [.lit (.bool false)], args := [] }
  | _ => none }
def ParseNamesWrongFalsely : Prop := parseNamesRow.holds Try.pinned (OpenSpec.ofChange parseNamesWrong)

/-- 'berthlaw13.ShowNames': WHATEVER THE INPUT: true; the input reads as it did. -/
def showNamesSpec : ChangeSpec := { name := "showNames", fn := fun _ => fun
  | [] => { results := [.lit (.bool true)], args := [] }
  | _ => none }
def showNamesRow : OpenClaim := { program := "yteeojceloljcbaa", sum := "210b071cbd074b877502c5980da8c5400ea02b441496967fc95488790e392e6d", func := "berth/berthlaw13.ShowNames", spec := "showNames", apart := false }
def ShowNamesSaid : Prop := showNamesRow.holds Try.pinned (OpenSpec.ofChange showNamesSpec)

/-- ITS FALSE NEIGHBOUR: 'it returns false'. Refute it at one input. -/
def showNamesWrong : ChangeSpec := { name := "showNames", fn := fun _ => fun
  | [] => { results := [.lit (.bool false)], args := [] }
  | _ => none }
def ShowNamesWrongFalsely : Prop := showNamesRow.holds Try.pinned (OpenSpec.ofChange showNamesWrong)

/-- 'berthlaw16.NormNames': WHATEVER THE INPUT: true; the input reads as it did. -/
def normNamesSpec : ChangeSpec := { name := "normNames", fn := fun _ => fun
  | [] => { results := [.lit (.bool true)], args := [] }
  | _ => none }
def normNamesRow : OpenClaim := { program := "yteeojceloljcbaa", sum := "210b071cbd074b877502c5980da8c5400ea02b441496967fc95488790e392e6d", func := "berth/berthlaw16.NormNames", spec := "normNames", apart := false }
def NormNamesSaid : Prop := normNamesRow.holds Try.pinned (OpenSpec.ofChange normNamesSpec)

/-- ITS FALSE NEIGHBOUR: 'it returns false'. Refute it at one input. -/
def normNamesWrong : ChangeSpec := { name := "normNames", fn := fun _ => fun
  | [] => { results := [.lit (.bool false)], args := [] }
  | _ => none }
def NormNamesWrongFalsely : Prop := normNamesRow.holds Try.pinned (OpenSpec.ofChange normNamesWrong)

/-- 'berthlaw23.FilterNames': WHATEVER THE INPUT: true; the input reads as it did. -/
def filterNamesSpec : ChangeSpec := { name := "filterNames", fn := fun _ => fun
  | [] => { results := [.lit (.bool true)], args := [] }
  | _ => none }
def filterNamesRow : OpenClaim := { program := "yteeojceloljcbaa", sum := "210b071cbd074b877502c5980da8c5400ea02b441496967fc95488790e392e6d", func := "berth/berthlaw23.FilterNames", spec := "filterNames", apart := false }
def FilterNamesSaid : Prop := filterNamesRow.holds Try.pinned (OpenSpec.ofChange filterNamesSpec)

/-- ITS FALSE NEIGHBOUR: 'it returns false'. Refute it at one input. -/
def filterNamesWrong : ChangeSpec := { name := "filterNames", fn := fun _ => fun
  | [] => { results := [.lit (.bool false)], args := [] }
  | _ => none }
def FilterNamesWrongFalsely : Prop := filterNamesRow.holds Try.pinned (OpenSpec.ofChange filterNamesWrong)

/- THE SECOND FORM. 'bulk': how many values and letters a reading holds, each counted each time it is reached (what is shared counts as often as it is met; a slice's spare places count too). A statement '..UptoSaid' is the law's where the arguments, and the package variables that the reading takes, are together of bulk at most 1048576: NARROWER than '..Said'. Prove '..Said' where nothing that the law and all that it calls make is longer than what came in: it says more and counts as full. Else prove '..UptoSaid'. A law counts once. -/
mutual
def uptoBulk {H : Type} : DataW H → Nat
  | .lit (.string bytes) => bytes.length + 1
  | .lit _ => 1
  | .nil => 1
  | .ptr d => uptoBulk d + 1
  | .slice elems spare => uptoBulkAll elems + uptoBulkAll spare + 1
  | .agg parts => uptoBulkAll parts + 1
  | .iface _ d => uptoBulk d + 1
  | .map entries => uptoBulkEntries entries + 1
  | .held _ => 1
def uptoBulkAll {H : Type} : List (DataW H) → Nat
  | [] => 0
  | d :: r => uptoBulk d + uptoBulkAll r
def uptoBulkEntries {H : Type} : List (Lit × DataW H) → Nat
  | [] => 0
  | x :: r => uptoBulkEntry x + uptoBulkEntries r
def uptoBulkEntry {H : Type} : Lit × DataW H → Nat
  | (.string bytes, d) => bytes.length + uptoBulk d + 1
  | (_, d) => uptoBulk d + 1
 end
def uptoSmall : (H : Type) → List (DataW H) → Bool := fun _ ds => decide (uptoBulkAll ds ≤ 1048576)
def OpenSpec.upto (s : _root_.Go.ChangeSpec) : _root_.Go.OpenSpec := { _root_.Go.OpenSpec.ofChange s with cond := some uptoSmall }

/-- 'berthlaw11.LexNames', WHERE WHAT IT READS IS OF BULK AT MOST 1048576: true; the input reads as it did. -/
def lexNamesUptoRow : OpenClaim := { program := "yteeojceloljcbaa", sum := "210b071cbd074b877502c5980da8c5400ea02b441496967fc95488790e392e6d", func := "berth/berthlaw11.LexNames", spec := "lexNames", apart := false, narrowed := true }
def LexNamesUptoSaid : Prop := lexNamesUptoRow.holds Try.pinned (OpenSpec.upto lexNamesSpec)

/-- 'berthlaw12.ParseNames', WHERE WHAT IT READS IS OF BULK AT MOST 1048576: true; the input reads as it did. -/
def parseNamesUptoRow : OpenClaim := { program := "yteeojceloljcbaa", sum := "210b071cbd074b877502c5980da8c5400ea02b441496967fc95488790e392e6d", func := "berth/berthlaw12.ParseNames", spec := "parseNames", apart := false, narrowed := true }
def ParseNamesUptoSaid : Prop := parseNamesUptoRow.holds Try.pinned (OpenSpec.upto parseNamesSpec)

/-- 'berthlaw13.ShowNames', WHERE WHAT IT READS IS OF BULK AT MOST 1048576: true; the input reads as it did. -/
def showNamesUptoRow : OpenClaim := { program := "yteeojceloljcbaa", sum := "210b071cbd074b877502c5980da8c5400ea02b441496967fc95488790e392e6d", func := "berth/berthlaw13.ShowNames", spec := "showNames", apart := false, narrowed := true }
def ShowNamesUptoSaid : Prop := showNamesUptoRow.holds Try.pinned (OpenSpec.upto showNamesSpec)

/-- 'berthlaw16.NormNames', WHERE WHAT IT READS IS OF BULK AT MOST 1048576: true; the input reads as it did. -/
def normNamesUptoRow : OpenClaim := { program := "yteeojceloljcbaa", sum := "210b071cbd074b877502c5980da8c5400ea02b441496967fc95488790e392e6d", func := "berth/berthlaw16.NormNames", spec := "normNames", apart := false, narrowed := true }
def NormNamesUptoSaid : Prop := normNamesUptoRow.holds Try.pinned (OpenSpec.upto normNamesSpec)

/-- 'berthlaw23.FilterNames', WHERE WHAT IT READS IS OF BULK AT MOST 1048576: true; the input reads as it did. -/
def filterNamesUptoRow : OpenClaim := { program := "yteeojceloljcbaa", sum := "210b071cbd074b877502c5980da8c5400ea02b441496967fc95488790e392e6d", func := "berth/berthlaw23.FilterNames", spec := "filterNames", apart := false, narrowed := true }
def FilterNamesUptoSaid : Prop := filterNamesUptoRow.holds Try.pinned (OpenSpec.upto filterNamesSpec)

end Rows
end Go.Proofs.Yteeojceloljcbaa
