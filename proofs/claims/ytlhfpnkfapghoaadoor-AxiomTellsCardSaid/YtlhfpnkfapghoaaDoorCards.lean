/-
  DERIVED. GIVEN WITH THE SEED: THE CARDS: each row of YtlhfpnkfapghoaaDoorRows.lean that lists a variable, with what it lists TIED to the program's text (the seventh form; the later family's looks); each row that meets fmt, with fmt's text TOLD by the authors' own Lean function (tested against real Go, not proved from fmt's source: count such statements apart). THE CARD IS WHAT COUNTS. Prove the row's statement (the work); the ties are given (YtlhfpnkfapghoaaDoorTie.lean); close each card by the builder's one call (the guide's Derived/Test/ToyasCard.lean, 'card_holds'). Laid BY PROGRAM, IN A SANDBOX (cutbox-door.mjs). By AI agents, Wed Nov 11 2026. No macro, syntax, notation, axiom, sorry.
-/
import Derived.Test.YtlhfpnkfapghoaaDoorRows
import GoSem.ClaimSeven
namespace Go.Proofs.YtlhfpnkfapghoaaDoor
namespace Rows

/-- THE TIED CARD OF 'burgagetop.WholeLeast'. -/
def wholeLeastCard : Claim7 := { stood := { row := wholeLeastRow, standIns := [], harness := (true, "78aacbf3cbad4a05a8a53012fe894cbeac0fd92d521d67fe4ca1a36c9a7e55f4"), looks := false }, kinds := [], alts := [], laidByText := true, laidKinds := [.data], laidTests := true, laidLooks := .later }
def WholeLeastCardSaid : Prop := Claim7.holds Tryd.pinned (.plain (OpenSpec.ofChange wholeLeastSpec)) wholeLeastCard

/-- THE TIED CARD OF 'burgagelaw11.LeastSees'. -/
def leastSeesCard : Claim7 := { stood := { row := leastSeesRow, standIns := [], harness := (true, "78aacbf3cbad4a05a8a53012fe894cbeac0fd92d521d67fe4ca1a36c9a7e55f4"), looks := false }, kinds := [], alts := [], laidByText := true, laidKinds := [.data], laidTests := true, laidLooks := .later }
def LeastSeesCardSaid : Prop := Claim7.holds Tryd.pinned (.plain (OpenSpec.ofChange leastSeesSpec)) leastSeesCard

/-- THE TIED CARD OF 'burgagelaw11.LeastMore'. -/
def leastMoreCard : Claim7 := { stood := { row := leastMoreRow, standIns := [], harness := (true, "78aacbf3cbad4a05a8a53012fe894cbeac0fd92d521d67fe4ca1a36c9a7e55f4"), looks := false }, kinds := [], alts := [], laidByText := true, laidKinds := [.data], laidTests := true, laidLooks := .later }
def LeastMoreCardSaid : Prop := Claim7.holds Tryd.pinned (.plain (OpenSpec.ofChange leastMoreSpec)) leastMoreCard

/-- THE TIED CARD OF 'burgagelaw14.PlaceTries'. -/
def placeTriesCard : Claim7 := { stood := { row := placeTriesRow, standIns := [], harness := (true, "78aacbf3cbad4a05a8a53012fe894cbeac0fd92d521d67fe4ca1a36c9a7e55f4"), looks := false }, kinds := [], alts := [], laidByText := true, laidKinds := [.data], laidTests := true, laidLooks := .later }
def PlaceTriesCardSaid : Prop := Claim7.holds Tryd.pinned (.plain (OpenSpec.ofChange placeTriesSpec)) placeTriesCard

/-- THE TIED CARD OF 'burgagelaw14.PlaceBack'. -/
def placeBackCard : Claim7 := { stood := { row := placeBackRow, standIns := [], harness := (true, "78aacbf3cbad4a05a8a53012fe894cbeac0fd92d521d67fe4ca1a36c9a7e55f4"), looks := false }, kinds := [], alts := [], laidByText := true, laidKinds := [.data], laidTests := true, laidLooks := .later }
def PlaceBackCardSaid : Prop := Claim7.holds Tryd.pinned (.plain (OpenSpec.ofChange placeBackSpec)) placeBackCard

/-- THE TIED CARD OF 'burgagelaw12.AxiomHolds'. -/
def axiomHoldsCard : Claim7 := { stood := { row := axiomHoldsRow, standIns := [], harness := (true, "78aacbf3cbad4a05a8a53012fe894cbeac0fd92d521d67fe4ca1a36c9a7e55f4"), looks := false }, kinds := [], alts := [], laidByText := true, laidKinds := [.data], laidTests := true, laidLooks := .later }
def AxiomHoldsCardSaid : Prop := Claim7.holds Tryd.pinned (.plain (OpenSpec.ofChange axiomHoldsSpec)) axiomHoldsCard

/-- THE TIED CARD OF 'burgagelaw12.AxiomRows'. -/
def axiomRowsCard : Claim7 := { stood := { row := axiomRowsRow, standIns := [], harness := (true, "78aacbf3cbad4a05a8a53012fe894cbeac0fd92d521d67fe4ca1a36c9a7e55f4"), looks := false }, kinds := [], alts := [], laidByText := true, laidKinds := [.data], laidTests := true, laidLooks := .later }
def AxiomRowsCardSaid : Prop := Claim7.holds Tryd.pinned (.plain (OpenSpec.ofChange axiomRowsSpec)) axiomRowsCard

/-- THE TIED CARD OF 'burgagelaw12.AxiomOdd'. -/
def axiomOddCard : Claim7 := { stood := { row := axiomOddRow, standIns := [], harness := (true, "78aacbf3cbad4a05a8a53012fe894cbeac0fd92d521d67fe4ca1a36c9a7e55f4"), looks := false }, kinds := [], alts := [], laidByText := true, laidKinds := [.data], laidTests := true, laidLooks := .later }
def AxiomOddCardSaid : Prop := Claim7.holds Tryd.pinned (.plain (OpenSpec.ofChange axiomOddSpec)) axiomOddCard

/-- THE TIED CARD OF 'burgagelaw15.MemoFuture'. -/
def memoFutureCard : Claim7 := { stood := { row := memoFutureRow, standIns := [], harness := (true, "78aacbf3cbad4a05a8a53012fe894cbeac0fd92d521d67fe4ca1a36c9a7e55f4"), looks := false }, kinds := [], alts := [], laidByText := true, laidKinds := [.data], laidTests := true, laidLooks := .later }
def MemoFutureCardSaid : Prop := Claim7.holds Tryd.pinned (.plain (OpenSpec.ofChange memoFutureSpec)) memoFutureCard

/-- THE TIED CARD OF 'burgagelaw15.MemoKeeps'. -/
def memoKeepsCard : Claim7 := { stood := { row := memoKeepsRow, standIns := [], harness := (true, "78aacbf3cbad4a05a8a53012fe894cbeac0fd92d521d67fe4ca1a36c9a7e55f4"), looks := false }, kinds := [], alts := [], laidByText := true, laidKinds := [.data], laidTests := true, laidLooks := .later }
def MemoKeepsCardSaid : Prop := Claim7.holds Tryd.pinned (.plain (OpenSpec.ofChange memoKeepsSpec)) memoKeepsCard

/-- THE TIED CARD OF 'burgagelaw12.AxiomTells'. -/
def axiomTellsCard : Claim7 := { stood := { row := axiomTellsRow, standIns := [], harness := (true, "78aacbf3cbad4a05a8a53012fe894cbeac0fd92d521d67fe4ca1a36c9a7e55f4"), looks := false }, kinds := [], alts := [], laidByText := true, laidKinds := [.data], laidTests := true, laidLooks := .later }
def AxiomTellsCardSaid : Prop := Claim7.holds Tryd.pinned (.plain (OpenSpec.ofChange axiomTellsSpec)) axiomTellsCard

/-- THE TIED CARD OF 'burgagetop.WholeImplied'. -/
def wholeImpliedCard : Claim7 := { stood := { row := wholeImpliedRow, standIns := [], harness := (true, "78aacbf3cbad4a05a8a53012fe894cbeac0fd92d521d67fe4ca1a36c9a7e55f4"), looks := false }, kinds := [], alts := [], laidByText := true, laidKinds := [.data], laidTests := true, laidLooks := .later }
def WholeImpliedCardSaid : Prop := Claim7.holds Tryd.pinned (.plain (OpenSpec.ofChange wholeImpliedSpec)) wholeImpliedCard

/-- THE SECOND FORM's CARD OF 'burgagetop.WholeLeast'. -/
def wholeLeastUptoCard : Claim7 := { stood := { row := wholeLeastUptoRow, standIns := [], harness := (true, "78aacbf3cbad4a05a8a53012fe894cbeac0fd92d521d67fe4ca1a36c9a7e55f4"), looks := false }, kinds := [], alts := [], laidByText := true, laidKinds := [.data], laidTests := true, laidLooks := .later }
def WholeLeastUptoCardSaid : Prop := Claim7.holds Tryd.pinned (.plain (OpenSpec.upto wholeLeastSpec)) wholeLeastUptoCard

/-- THE SECOND FORM's CARD OF 'burgagelaw11.LeastSees'. -/
def leastSeesUptoCard : Claim7 := { stood := { row := leastSeesUptoRow, standIns := [], harness := (true, "78aacbf3cbad4a05a8a53012fe894cbeac0fd92d521d67fe4ca1a36c9a7e55f4"), looks := false }, kinds := [], alts := [], laidByText := true, laidKinds := [.data], laidTests := true, laidLooks := .later }
def LeastSeesUptoCardSaid : Prop := Claim7.holds Tryd.pinned (.plain (OpenSpec.upto leastSeesSpec)) leastSeesUptoCard

/-- THE SECOND FORM's CARD OF 'burgagelaw11.LeastMore'. -/
def leastMoreUptoCard : Claim7 := { stood := { row := leastMoreUptoRow, standIns := [], harness := (true, "78aacbf3cbad4a05a8a53012fe894cbeac0fd92d521d67fe4ca1a36c9a7e55f4"), looks := false }, kinds := [], alts := [], laidByText := true, laidKinds := [.data], laidTests := true, laidLooks := .later }
def LeastMoreUptoCardSaid : Prop := Claim7.holds Tryd.pinned (.plain (OpenSpec.upto leastMoreSpec)) leastMoreUptoCard

/-- THE SECOND FORM's CARD OF 'burgagelaw14.PlaceTries'. -/
def placeTriesUptoCard : Claim7 := { stood := { row := placeTriesUptoRow, standIns := [], harness := (true, "78aacbf3cbad4a05a8a53012fe894cbeac0fd92d521d67fe4ca1a36c9a7e55f4"), looks := false }, kinds := [], alts := [], laidByText := true, laidKinds := [.data], laidTests := true, laidLooks := .later }
def PlaceTriesUptoCardSaid : Prop := Claim7.holds Tryd.pinned (.plain (OpenSpec.upto placeTriesSpec)) placeTriesUptoCard

/-- THE SECOND FORM's CARD OF 'burgagelaw14.PlaceBack'. -/
def placeBackUptoCard : Claim7 := { stood := { row := placeBackUptoRow, standIns := [], harness := (true, "78aacbf3cbad4a05a8a53012fe894cbeac0fd92d521d67fe4ca1a36c9a7e55f4"), looks := false }, kinds := [], alts := [], laidByText := true, laidKinds := [.data], laidTests := true, laidLooks := .later }
def PlaceBackUptoCardSaid : Prop := Claim7.holds Tryd.pinned (.plain (OpenSpec.upto placeBackSpec)) placeBackUptoCard

/-- THE SECOND FORM's CARD OF 'burgagelaw12.AxiomHolds'. -/
def axiomHoldsUptoCard : Claim7 := { stood := { row := axiomHoldsUptoRow, standIns := [], harness := (true, "78aacbf3cbad4a05a8a53012fe894cbeac0fd92d521d67fe4ca1a36c9a7e55f4"), looks := false }, kinds := [], alts := [], laidByText := true, laidKinds := [.data], laidTests := true, laidLooks := .later }
def AxiomHoldsUptoCardSaid : Prop := Claim7.holds Tryd.pinned (.plain (OpenSpec.upto axiomHoldsSpec)) axiomHoldsUptoCard

/-- THE SECOND FORM's CARD OF 'burgagelaw12.AxiomRows'. -/
def axiomRowsUptoCard : Claim7 := { stood := { row := axiomRowsUptoRow, standIns := [], harness := (true, "78aacbf3cbad4a05a8a53012fe894cbeac0fd92d521d67fe4ca1a36c9a7e55f4"), looks := false }, kinds := [], alts := [], laidByText := true, laidKinds := [.data], laidTests := true, laidLooks := .later }
def AxiomRowsUptoCardSaid : Prop := Claim7.holds Tryd.pinned (.plain (OpenSpec.upto axiomRowsSpec)) axiomRowsUptoCard

/-- THE SECOND FORM's CARD OF 'burgagelaw12.AxiomOdd'. -/
def axiomOddUptoCard : Claim7 := { stood := { row := axiomOddUptoRow, standIns := [], harness := (true, "78aacbf3cbad4a05a8a53012fe894cbeac0fd92d521d67fe4ca1a36c9a7e55f4"), looks := false }, kinds := [], alts := [], laidByText := true, laidKinds := [.data], laidTests := true, laidLooks := .later }
def AxiomOddUptoCardSaid : Prop := Claim7.holds Tryd.pinned (.plain (OpenSpec.upto axiomOddSpec)) axiomOddUptoCard

/-- THE SECOND FORM's CARD OF 'burgagelaw15.MemoFuture'. -/
def memoFutureUptoCard : Claim7 := { stood := { row := memoFutureUptoRow, standIns := [], harness := (true, "78aacbf3cbad4a05a8a53012fe894cbeac0fd92d521d67fe4ca1a36c9a7e55f4"), looks := false }, kinds := [], alts := [], laidByText := true, laidKinds := [.data], laidTests := true, laidLooks := .later }
def MemoFutureUptoCardSaid : Prop := Claim7.holds Tryd.pinned (.plain (OpenSpec.upto memoFutureSpec)) memoFutureUptoCard

/-- THE SECOND FORM's CARD OF 'burgagelaw15.MemoKeeps'. -/
def memoKeepsUptoCard : Claim7 := { stood := { row := memoKeepsUptoRow, standIns := [], harness := (true, "78aacbf3cbad4a05a8a53012fe894cbeac0fd92d521d67fe4ca1a36c9a7e55f4"), looks := false }, kinds := [], alts := [], laidByText := true, laidKinds := [.data], laidTests := true, laidLooks := .later }
def MemoKeepsUptoCardSaid : Prop := Claim7.holds Tryd.pinned (.plain (OpenSpec.upto memoKeepsSpec)) memoKeepsUptoCard

/-- THE SECOND FORM's CARD OF 'burgagelaw12.AxiomTells'. -/
def axiomTellsUptoCard : Claim7 := { stood := { row := axiomTellsUptoRow, standIns := [], harness := (true, "78aacbf3cbad4a05a8a53012fe894cbeac0fd92d521d67fe4ca1a36c9a7e55f4"), looks := false }, kinds := [], alts := [], laidByText := true, laidKinds := [.data], laidTests := true, laidLooks := .later }
def AxiomTellsUptoCardSaid : Prop := Claim7.holds Tryd.pinned (.plain (OpenSpec.upto axiomTellsSpec)) axiomTellsUptoCard

/-- THE SECOND FORM's CARD OF 'burgagetop.WholeImplied'. -/
def wholeImpliedUptoCard : Claim7 := { stood := { row := wholeImpliedUptoRow, standIns := [], harness := (true, "78aacbf3cbad4a05a8a53012fe894cbeac0fd92d521d67fe4ca1a36c9a7e55f4"), looks := false }, kinds := [], alts := [], laidByText := true, laidKinds := [.data], laidTests := true, laidLooks := .later }
def WholeImpliedUptoCardSaid : Prop := Claim7.holds Tryd.pinned (.plain (OpenSpec.upto wholeImpliedSpec)) wholeImpliedUptoCard
end Rows
end Go.Proofs.YtlhfpnkfapghoaaDoor
