/-
  DERIVED. GIVEN WITH THE SEED: THE CARDS: each row of YtkpkdacifbolkaaDoorRows.lean that lists a variable, with what it lists TIED to the program's text (the seventh form; the later family's looks); each row that meets fmt, with fmt's text TOLD by the authors' own Lean function (tested against real Go, not proved from fmt's source: count such statements apart). THE CARD IS WHAT COUNTS. Prove the row's statement (the work); the ties are given (YtkpkdacifbolkaaDoorTie.lean); close each card by the builder's one call (the guide's Derived/Test/ToyasCard.lean, 'card_holds'). Laid BY PROGRAM, IN A SANDBOX (cutbox-door.mjs). By AI agents, Wed Nov 11 2026. No macro, syntax, notation, axiom, sorry.
-/
import Derived.Test.YtkpkdacifbolkaaDoorRows
import GoSem.ClaimSeven
namespace Go.Proofs.YtkpkdacifbolkaaDoor
namespace Rows

/-- THE TIED CARD OF 'burgagelaw01.SetParts'. -/
def setPartsCard : Claim7 := { stood := { row := setPartsRow, standIns := [], harness := (true, "f91f7a740a38d3f625f7162f465bc62a479a82c7a4effa65e6e8745ec5329dbf"), looks := false }, kinds := [], alts := [], laidByText := true, laidKinds := [.data], laidTests := true, laidLooks := .later }
def SetPartsCardSaid : Prop := Claim7.holds Tryd.pinned (.plain (OpenSpec.ofChange setPartsSpec)) setPartsCard

/-- THE TIED CARD OF 'burgagelaw01.SetLists'. -/
def setListsCard : Claim7 := { stood := { row := setListsRow, standIns := [], harness := (true, "f91f7a740a38d3f625f7162f465bc62a479a82c7a4effa65e6e8745ec5329dbf"), looks := false }, kinds := [], alts := [], laidByText := true, laidKinds := [.data], laidTests := true, laidLooks := .later }
def SetListsCardSaid : Prop := Claim7.holds Tryd.pinned (.plain (OpenSpec.ofChange setListsSpec)) setListsCard

/-- THE TIED CARD OF 'burgagelaw01.SetBack'. -/
def setBackCard : Claim7 := { stood := { row := setBackRow, standIns := [], harness := (true, "f91f7a740a38d3f625f7162f465bc62a479a82c7a4effa65e6e8745ec5329dbf"), looks := false }, kinds := [], alts := [], laidByText := true, laidKinds := [.data], laidTests := true, laidLooks := .later }
def SetBackCardSaid : Prop := Claim7.holds Tryd.pinned (.plain (OpenSpec.ofChange setBackSpec)) setBackCard

/-- THE SECOND FORM's CARD OF 'burgagelaw01.SetParts'. -/
def setPartsUptoCard : Claim7 := { stood := { row := setPartsUptoRow, standIns := [], harness := (true, "f91f7a740a38d3f625f7162f465bc62a479a82c7a4effa65e6e8745ec5329dbf"), looks := false }, kinds := [], alts := [], laidByText := true, laidKinds := [.data], laidTests := true, laidLooks := .later }
def SetPartsUptoCardSaid : Prop := Claim7.holds Tryd.pinned (.plain (OpenSpec.upto setPartsSpec)) setPartsUptoCard

/-- THE SECOND FORM's CARD OF 'burgagelaw01.SetLists'. -/
def setListsUptoCard : Claim7 := { stood := { row := setListsUptoRow, standIns := [], harness := (true, "f91f7a740a38d3f625f7162f465bc62a479a82c7a4effa65e6e8745ec5329dbf"), looks := false }, kinds := [], alts := [], laidByText := true, laidKinds := [.data], laidTests := true, laidLooks := .later }
def SetListsUptoCardSaid : Prop := Claim7.holds Tryd.pinned (.plain (OpenSpec.upto setListsSpec)) setListsUptoCard

/-- THE SECOND FORM's CARD OF 'burgagelaw01.SetBack'. -/
def setBackUptoCard : Claim7 := { stood := { row := setBackUptoRow, standIns := [], harness := (true, "f91f7a740a38d3f625f7162f465bc62a479a82c7a4effa65e6e8745ec5329dbf"), looks := false }, kinds := [], alts := [], laidByText := true, laidKinds := [.data], laidTests := true, laidLooks := .later }
def SetBackUptoCardSaid : Prop := Claim7.holds Tryd.pinned (.plain (OpenSpec.upto setBackSpec)) setBackUptoCard
end Rows
end Go.Proofs.YtkpkdacifbolkaaDoor
