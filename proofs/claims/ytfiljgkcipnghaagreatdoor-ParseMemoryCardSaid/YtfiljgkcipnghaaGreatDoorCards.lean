/-
  DERIVED. GIVEN WITH THE SEED: THE CARDS: each row of YtfiljgkcipnghaaGreatDoorRows.lean that lists a variable, with what it lists TIED to the program's text (the seventh form; the later family's looks); each row that meets fmt, with fmt's text TOLD by the authors' own Lean function (tested against real Go, not proved from fmt's source: count such statements apart). THE CARD IS WHAT COUNTS. Prove the row's statement (the work); the ties are given (YtfiljgkcipnghaaGreatDoorTie.lean); close each card by the builder's one call (the guide's Derived/Test/ToyasCard.lean, 'card_holds'). Laid BY PROGRAM, IN A SANDBOX (cutbox-door.mjs). By AI agents, Wed Nov 11 2026. No macro, syntax, notation, axiom, sorry.
-/
import Derived.Test.YtfiljgkcipnghaaGreatDoorRows
import GoSem.ClaimSeven
namespace Go.Proofs.YtfiljgkcipnghaaGreatDoor
namespace Rows

/-- THE TIED CARD OF 'berthtop.TopReads'. -/
def topReadsCard : Claim7 := { stood := { row := topReadsRow, standIns := [], harness := (true, "a50c07fc4221e91885b030209fe14b32ef4893c7b3c4c2ee531ca98996ee3e02"), looks := true }, kinds := [], alts := [], laidByText := true, laidKinds := [.data, .data, .data, .sentinel, .sentinel], laidTests := true, laidLooks := .later }
def TopReadsCardSaid : Prop := Claim7.holds Tryz.pinned (.plain (OpenSpec.ofChange topReadsSpec)) topReadsCard

/-- THE TIED CARD OF 'berthtop.TopShows'. -/
def topShowsCard : Claim7 := { stood := { row := topShowsRow, standIns := [], harness := (true, "a50c07fc4221e91885b030209fe14b32ef4893c7b3c4c2ee531ca98996ee3e02"), looks := true }, kinds := [], alts := [], laidByText := true, laidKinds := [.data, .data, .data, .sentinel, .sentinel], laidTests := true, laidLooks := .later }
def TopShowsCardSaid : Prop := Claim7.holds Tryz.pinned (.plain (OpenSpec.ofChange topShowsSpec)) topShowsCard

/-- THE TIED CARD OF 'berthlaw12.ParseReads'. -/
def parseReadsCard : Claim7 := { stood := { row := parseReadsRow, standIns := [], harness := (true, "a50c07fc4221e91885b030209fe14b32ef4893c7b3c4c2ee531ca98996ee3e02"), looks := true }, kinds := [], alts := [], laidByText := true, laidKinds := [.data, .data, .data, .sentinel, .sentinel], laidTests := true, laidLooks := .later }
def ParseReadsCardSaid : Prop := Claim7.holds Tryz.pinned (.plain (OpenSpec.ofChange parseReadsSpec)) parseReadsCard

/-- THE TIED CARD OF 'berthlaw12.ParseMemory'. -/
def parseMemoryCard : Claim7 := { stood := { row := parseMemoryRow, standIns := [], harness := (true, "a50c07fc4221e91885b030209fe14b32ef4893c7b3c4c2ee531ca98996ee3e02"), looks := true }, kinds := [], alts := [], laidByText := true, laidKinds := [.data, .data, .data, .sentinel, .sentinel], laidTests := true, laidLooks := .later }
def ParseMemoryCardSaid : Prop := Claim7.holds Tryz.pinned (.plain (OpenSpec.ofChange parseMemorySpec)) parseMemoryCard

/-- THE TIED CARD OF 'berthlaw13.ShowSource'. -/
def showSourceCard : Claim7 := { stood := { row := showSourceRow, standIns := [], harness := (true, "a50c07fc4221e91885b030209fe14b32ef4893c7b3c4c2ee531ca98996ee3e02"), looks := true }, kinds := [], alts := [], laidByText := true, laidKinds := [.data, .data, .data, .sentinel, .sentinel], laidTests := true, laidLooks := .later }
def ShowSourceCardSaid : Prop := Claim7.holds Tryz.pinned (.plain (OpenSpec.ofChange showSourceSpec)) showSourceCard

/-- THE TIED CARD OF 'berthlaw13.ShowReads'. -/
def showReadsCard : Claim7 := { stood := { row := showReadsRow, standIns := [], harness := (true, "a50c07fc4221e91885b030209fe14b32ef4893c7b3c4c2ee531ca98996ee3e02"), looks := true }, kinds := [], alts := [], laidByText := true, laidKinds := [.data, .data, .data, .sentinel, .sentinel], laidTests := true, laidLooks := .later }
def ShowReadsCardSaid : Prop := Claim7.holds Tryz.pinned (.plain (OpenSpec.ofChange showReadsSpec)) showReadsCard

/-- THE SECOND FORM's CARD OF 'berthtop.TopReads'. -/
def topReadsUptoCard : Claim7 := { stood := { row := topReadsUptoRow, standIns := [], harness := (true, "a50c07fc4221e91885b030209fe14b32ef4893c7b3c4c2ee531ca98996ee3e02"), looks := true }, kinds := [], alts := [], laidByText := true, laidKinds := [.data, .data, .data, .sentinel, .sentinel], laidTests := true, laidLooks := .later }
def TopReadsUptoCardSaid : Prop := Claim7.holds Tryz.pinned (.plain (OpenSpec.upto topReadsSpec)) topReadsUptoCard

/-- THE SECOND FORM's CARD OF 'berthtop.TopShows'. -/
def topShowsUptoCard : Claim7 := { stood := { row := topShowsUptoRow, standIns := [], harness := (true, "a50c07fc4221e91885b030209fe14b32ef4893c7b3c4c2ee531ca98996ee3e02"), looks := true }, kinds := [], alts := [], laidByText := true, laidKinds := [.data, .data, .data, .sentinel, .sentinel], laidTests := true, laidLooks := .later }
def TopShowsUptoCardSaid : Prop := Claim7.holds Tryz.pinned (.plain (OpenSpec.upto topShowsSpec)) topShowsUptoCard

/-- THE SECOND FORM's CARD OF 'berthlaw12.ParseReads'. -/
def parseReadsUptoCard : Claim7 := { stood := { row := parseReadsUptoRow, standIns := [], harness := (true, "a50c07fc4221e91885b030209fe14b32ef4893c7b3c4c2ee531ca98996ee3e02"), looks := true }, kinds := [], alts := [], laidByText := true, laidKinds := [.data, .data, .data, .sentinel, .sentinel], laidTests := true, laidLooks := .later }
def ParseReadsUptoCardSaid : Prop := Claim7.holds Tryz.pinned (.plain (OpenSpec.upto parseReadsSpec)) parseReadsUptoCard

/-- THE SECOND FORM's CARD OF 'berthlaw12.ParseMemory'. -/
def parseMemoryUptoCard : Claim7 := { stood := { row := parseMemoryUptoRow, standIns := [], harness := (true, "a50c07fc4221e91885b030209fe14b32ef4893c7b3c4c2ee531ca98996ee3e02"), looks := true }, kinds := [], alts := [], laidByText := true, laidKinds := [.data, .data, .data, .sentinel, .sentinel], laidTests := true, laidLooks := .later }
def ParseMemoryUptoCardSaid : Prop := Claim7.holds Tryz.pinned (.plain (OpenSpec.upto parseMemorySpec)) parseMemoryUptoCard

/-- THE SECOND FORM's CARD OF 'berthlaw13.ShowSource'. -/
def showSourceUptoCard : Claim7 := { stood := { row := showSourceUptoRow, standIns := [], harness := (true, "a50c07fc4221e91885b030209fe14b32ef4893c7b3c4c2ee531ca98996ee3e02"), looks := true }, kinds := [], alts := [], laidByText := true, laidKinds := [.data, .data, .data, .sentinel, .sentinel], laidTests := true, laidLooks := .later }
def ShowSourceUptoCardSaid : Prop := Claim7.holds Tryz.pinned (.plain (OpenSpec.upto showSourceSpec)) showSourceUptoCard

/-- THE SECOND FORM's CARD OF 'berthlaw13.ShowReads'. -/
def showReadsUptoCard : Claim7 := { stood := { row := showReadsUptoRow, standIns := [], harness := (true, "a50c07fc4221e91885b030209fe14b32ef4893c7b3c4c2ee531ca98996ee3e02"), looks := true }, kinds := [], alts := [], laidByText := true, laidKinds := [.data, .data, .data, .sentinel, .sentinel], laidTests := true, laidLooks := .later }
def ShowReadsUptoCardSaid : Prop := Claim7.holds Tryz.pinned (.plain (OpenSpec.upto showReadsSpec)) showReadsUptoCard
end Rows
end Go.Proofs.YtfiljgkcipnghaaGreatDoor
