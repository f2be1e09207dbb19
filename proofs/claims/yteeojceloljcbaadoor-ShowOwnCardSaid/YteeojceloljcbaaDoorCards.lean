/-
  DERIVED. GIVEN WITH THE SEED: THE CARDS: each row of YteeojceloljcbaaDoorRows.lean that lists a variable, with what it lists TIED to the program's text (the seventh form; the later family's looks); each row that meets fmt, with fmt's text TOLD by the authors' own Lean function (tested against real Go, not proved from fmt's source: count such statements apart). THE CARD IS WHAT COUNTS. Prove the row's statement (the work); the ties are given (YteeojceloljcbaaDoorTie.lean); close each card by the builder's one call (the guide's Derived/Test/ToyasCard.lean, 'card_holds'). Laid BY PROGRAM, IN A SANDBOX (cutbox-door.mjs). By AI agents, Wed Nov 11 2026. No macro, syntax, notation, axiom, sorry.
-/
import Derived.Test.YteeojceloljcbaaDoorRows
import GoSem.ClaimSeven
namespace Go.Proofs.YteeojceloljcbaaDoor
namespace Rows

/-- THE TIED CARD OF 'berthlaw13.ShowValid'. -/
def showValidCard : Claim7 := { stood := { row := showValidRow, standIns := [], harness := (true, "4f8c9674897db57e04ffb21a2f5876d1f9a695c3f574a7d7b4918815af2c7826"), looks := true }, kinds := [], alts := [], laidByText := true, laidKinds := [.data, .data, .data], laidTests := true, laidLooks := .later }
def ShowValidCardSaid : Prop := Claim7.holds Tryd.pinned (.plain (OpenSpec.ofChange showValidSpec)) showValidCard

/-- THE TIED CARD OF 'berthlaw13.ShowNests'. -/
def showNestsCard : Claim7 := { stood := { row := showNestsRow, standIns := [], harness := (true, "4f8c9674897db57e04ffb21a2f5876d1f9a695c3f574a7d7b4918815af2c7826"), looks := true }, kinds := [], alts := [], laidByText := true, laidKinds := [.data, .data, .data], laidTests := true, laidLooks := .later }
def ShowNestsCardSaid : Prop := Claim7.holds Tryd.pinned (.plain (OpenSpec.ofChange showNestsSpec)) showNestsCard

/-- THE TIED CARD OF 'berthlaw13.ShowTexts'. -/
def showTextsCard : Claim7 := { stood := { row := showTextsRow, standIns := [], harness := (true, "4f8c9674897db57e04ffb21a2f5876d1f9a695c3f574a7d7b4918815af2c7826"), looks := true }, kinds := [], alts := [], laidByText := true, laidKinds := [.data, .data, .data], laidTests := true, laidLooks := .later }
def ShowTextsCardSaid : Prop := Claim7.holds Tryd.pinned (.plain (OpenSpec.ofChange showTextsSpec)) showTextsCard

/-- THE TIED CARD OF 'berthlaw13.ShowOver'. -/
def showOverCard : Claim7 := { stood := { row := showOverRow, standIns := [], harness := (true, "4f8c9674897db57e04ffb21a2f5876d1f9a695c3f574a7d7b4918815af2c7826"), looks := true }, kinds := [], alts := [], laidByText := true, laidKinds := [.data, .data, .data], laidTests := true, laidLooks := .later }
def ShowOverCardSaid : Prop := Claim7.holds Tryd.pinned (.plain (OpenSpec.ofChange showOverSpec)) showOverCard

/-- THE TIED CARD OF 'berthlaw13.ShowOwn'. -/
def showOwnCard : Claim7 := { stood := { row := showOwnRow, standIns := [], harness := (true, "4f8c9674897db57e04ffb21a2f5876d1f9a695c3f574a7d7b4918815af2c7826"), looks := true }, kinds := [], alts := [], laidByText := true, laidKinds := [.data, .data, .data], laidTests := true, laidLooks := .later }
def ShowOwnCardSaid : Prop := Claim7.holds Tryd.pinned (.plain (OpenSpec.ofChange showOwnSpec)) showOwnCard

/-- THE SECOND FORM's CARD OF 'berthlaw13.ShowValid'. -/
def showValidUptoCard : Claim7 := { stood := { row := showValidUptoRow, standIns := [], harness := (true, "4f8c9674897db57e04ffb21a2f5876d1f9a695c3f574a7d7b4918815af2c7826"), looks := true }, kinds := [], alts := [], laidByText := true, laidKinds := [.data, .data, .data], laidTests := true, laidLooks := .later }
def ShowValidUptoCardSaid : Prop := Claim7.holds Tryd.pinned (.plain (OpenSpec.upto showValidSpec)) showValidUptoCard

/-- THE SECOND FORM's CARD OF 'berthlaw13.ShowNests'. -/
def showNestsUptoCard : Claim7 := { stood := { row := showNestsUptoRow, standIns := [], harness := (true, "4f8c9674897db57e04ffb21a2f5876d1f9a695c3f574a7d7b4918815af2c7826"), looks := true }, kinds := [], alts := [], laidByText := true, laidKinds := [.data, .data, .data], laidTests := true, laidLooks := .later }
def ShowNestsUptoCardSaid : Prop := Claim7.holds Tryd.pinned (.plain (OpenSpec.upto showNestsSpec)) showNestsUptoCard

/-- THE SECOND FORM's CARD OF 'berthlaw13.ShowTexts'. -/
def showTextsUptoCard : Claim7 := { stood := { row := showTextsUptoRow, standIns := [], harness := (true, "4f8c9674897db57e04ffb21a2f5876d1f9a695c3f574a7d7b4918815af2c7826"), looks := true }, kinds := [], alts := [], laidByText := true, laidKinds := [.data, .data, .data], laidTests := true, laidLooks := .later }
def ShowTextsUptoCardSaid : Prop := Claim7.holds Tryd.pinned (.plain (OpenSpec.upto showTextsSpec)) showTextsUptoCard

/-- THE SECOND FORM's CARD OF 'berthlaw13.ShowOver'. -/
def showOverUptoCard : Claim7 := { stood := { row := showOverUptoRow, standIns := [], harness := (true, "4f8c9674897db57e04ffb21a2f5876d1f9a695c3f574a7d7b4918815af2c7826"), looks := true }, kinds := [], alts := [], laidByText := true, laidKinds := [.data, .data, .data], laidTests := true, laidLooks := .later }
def ShowOverUptoCardSaid : Prop := Claim7.holds Tryd.pinned (.plain (OpenSpec.upto showOverSpec)) showOverUptoCard

/-- THE SECOND FORM's CARD OF 'berthlaw13.ShowOwn'. -/
def showOwnUptoCard : Claim7 := { stood := { row := showOwnUptoRow, standIns := [], harness := (true, "4f8c9674897db57e04ffb21a2f5876d1f9a695c3f574a7d7b4918815af2c7826"), looks := true }, kinds := [], alts := [], laidByText := true, laidKinds := [.data, .data, .data], laidTests := true, laidLooks := .later }
def ShowOwnUptoCardSaid : Prop := Claim7.holds Tryd.pinned (.plain (OpenSpec.upto showOwnSpec)) showOwnUptoCard
end Rows
end Go.Proofs.YteeojceloljcbaaDoor
