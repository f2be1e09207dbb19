/-
  DERIVED. GIVEN WITH THE SEED: THE CARDS: each row of YtghhnnbbjlipcaaDoorRows.lean that lists a variable, with what it lists TIED to the program's text (the seventh form; the later family's looks); each row that meets fmt, with fmt's text TOLD by the authors' own Lean function (tested against real Go, not proved from fmt's source: count such statements apart). THE CARD IS WHAT COUNTS. Prove the row's statement (the work); the ties are given (YtghhnnbbjlipcaaDoorTie.lean); close each card by the builder's one call (the guide's Derived/Test/ToyasCard.lean, 'card_holds'). Laid BY PROGRAM, IN A SANDBOX (cutbox-door.mjs). By AI agents, Wed Nov 11 2026. No macro, syntax, notation, axiom, sorry.
-/
import Derived.Test.YtghhnnbbjlipcaaDoorRows
import GoSem.ClaimSeven
namespace Go.Proofs.YtghhnnbbjlipcaaDoor
namespace Rows

/-- THE TIED CARD OF 'berthlaw12.ParseEither'. -/
def parseEitherCard : Claim7 := { stood := { row := parseEitherRow, standIns := [], harness := (true, "ecdcd440864728b556612722770de75d406457e294a51a71817724a725e8cf86"), looks := true }, kinds := [], alts := [], laidByText := true, laidKinds := [.data, .data, .data, .sentinel, .sentinel], laidTests := true, laidLooks := .later }
def ParseEitherCardSaid : Prop := Claim7.holds Tryd.pinned (.plain (OpenSpec.ofChange parseEitherSpec)) parseEitherCard

/-- THE TIED CARD OF 'berthlaw12.ParseBlanks'. -/
def parseBlanksCard : Claim7 := { stood := { row := parseBlanksRow, standIns := [], harness := (true, "ecdcd440864728b556612722770de75d406457e294a51a71817724a725e8cf86"), looks := true }, kinds := [], alts := [], laidByText := true, laidKinds := [.data, .data, .data, .sentinel, .sentinel], laidTests := true, laidLooks := .later }
def ParseBlanksCardSaid : Prop := Claim7.holds Tryd.pinned (.plain (OpenSpec.ofChange parseBlanksSpec)) parseBlanksCard

/-- THE TIED CARD OF 'berthlaw12.ParseRest'. -/
def parseRestCard : Claim7 := { stood := { row := parseRestRow, standIns := [], harness := (true, "ecdcd440864728b556612722770de75d406457e294a51a71817724a725e8cf86"), looks := true }, kinds := [], alts := [], laidByText := true, laidKinds := [.data, .data, .data, .sentinel, .sentinel], laidTests := true, laidLooks := .later }
def ParseRestCardSaid : Prop := Claim7.holds Tryd.pinned (.plain (OpenSpec.ofChange parseRestSpec)) parseRestCard

/-- THE TIED CARD OF 'berthlaw12.ParseJoins'. -/
def parseJoinsCard : Claim7 := { stood := { row := parseJoinsRow, standIns := [], harness := (true, "ecdcd440864728b556612722770de75d406457e294a51a71817724a725e8cf86"), looks := true }, kinds := [], alts := [], laidByText := true, laidKinds := [.data, .data, .data, .sentinel, .sentinel], laidTests := true, laidLooks := .later }
def ParseJoinsCardSaid : Prop := Claim7.holds Tryd.pinned (.plain (OpenSpec.ofChange parseJoinsSpec)) parseJoinsCard

/-- THE SECOND FORM's CARD OF 'berthlaw12.ParseEither'. -/
def parseEitherUptoCard : Claim7 := { stood := { row := parseEitherUptoRow, standIns := [], harness := (true, "ecdcd440864728b556612722770de75d406457e294a51a71817724a725e8cf86"), looks := true }, kinds := [], alts := [], laidByText := true, laidKinds := [.data, .data, .data, .sentinel, .sentinel], laidTests := true, laidLooks := .later }
def ParseEitherUptoCardSaid : Prop := Claim7.holds Tryd.pinned (.plain (OpenSpec.upto parseEitherSpec)) parseEitherUptoCard

/-- THE SECOND FORM's CARD OF 'berthlaw12.ParseBlanks'. -/
def parseBlanksUptoCard : Claim7 := { stood := { row := parseBlanksUptoRow, standIns := [], harness := (true, "ecdcd440864728b556612722770de75d406457e294a51a71817724a725e8cf86"), looks := true }, kinds := [], alts := [], laidByText := true, laidKinds := [.data, .data, .data, .sentinel, .sentinel], laidTests := true, laidLooks := .later }
def ParseBlanksUptoCardSaid : Prop := Claim7.holds Tryd.pinned (.plain (OpenSpec.upto parseBlanksSpec)) parseBlanksUptoCard

/-- THE SECOND FORM's CARD OF 'berthlaw12.ParseRest'. -/
def parseRestUptoCard : Claim7 := { stood := { row := parseRestUptoRow, standIns := [], harness := (true, "ecdcd440864728b556612722770de75d406457e294a51a71817724a725e8cf86"), looks := true }, kinds := [], alts := [], laidByText := true, laidKinds := [.data, .data, .data, .sentinel, .sentinel], laidTests := true, laidLooks := .later }
def ParseRestUptoCardSaid : Prop := Claim7.holds Tryd.pinned (.plain (OpenSpec.upto parseRestSpec)) parseRestUptoCard

/-- THE SECOND FORM's CARD OF 'berthlaw12.ParseJoins'. -/
def parseJoinsUptoCard : Claim7 := { stood := { row := parseJoinsUptoRow, standIns := [], harness := (true, "ecdcd440864728b556612722770de75d406457e294a51a71817724a725e8cf86"), looks := true }, kinds := [], alts := [], laidByText := true, laidKinds := [.data, .data, .data, .sentinel, .sentinel], laidTests := true, laidLooks := .later }
def ParseJoinsUptoCardSaid : Prop := Claim7.holds Tryd.pinned (.plain (OpenSpec.upto parseJoinsSpec)) parseJoinsUptoCard
end Rows
end Go.Proofs.YtghhnnbbjlipcaaDoor
