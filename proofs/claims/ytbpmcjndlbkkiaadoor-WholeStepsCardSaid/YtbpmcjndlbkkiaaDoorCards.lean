/-
  DERIVED. GIVEN WITH THE SEED: THE CARDS: each row of YtbpmcjndlbkkiaaDoorRows.lean that lists a variable, with what it lists TIED to the program's text (the seventh form; the later family's looks); each row that meets fmt, with fmt's text TOLD by the authors' own Lean function (tested against real Go, not proved from fmt's source: count such statements apart). THE CARD IS WHAT COUNTS. Prove the row's statement (the work); the ties are given (YtbpmcjndlbkkiaaDoorTie.lean); close each card by the builder's one call (the guide's Derived/Test/ToyasCard.lean, 'card_holds'). Laid BY PROGRAM, IN A SANDBOX (cutbox-door.mjs). By AI agents, Wed Nov 11 2026. No macro, syntax, notation, axiom, sorry.
-/
import Derived.Test.YtbpmcjndlbkkiaaDoorRows
import GoSem.ClaimSeven
namespace Go.Proofs.YtbpmcjndlbkkiaaDoor
namespace Rows

/-- THE TIED CARD OF 'burgagelaw02.RelSorts'. -/
def relSortsCard : Claim7 := { stood := { row := relSortsRow, standIns := [], harness := (true, "f93cc060b8996161ea5cbdc0b4618eeb77f9c91a4aca7888a1735bb2afafe046"), looks := false }, kinds := [], alts := [], laidByText := true, laidKinds := [.data], laidTests := true, laidLooks := .later }
def RelSortsCardSaid : Prop := Claim7.holds Tryd.pinned (.plain (OpenSpec.ofChange relSortsSpec)) relSortsCard

/-- THE TIED CARD OF 'burgagelaw02.RelCycles'. -/
def relCyclesCard : Claim7 := { stood := { row := relCyclesRow, standIns := [], harness := (true, "f93cc060b8996161ea5cbdc0b4618eeb77f9c91a4aca7888a1735bb2afafe046"), looks := false }, kinds := [], alts := [], laidByText := true, laidKinds := [.data], laidTests := true, laidLooks := .later }
def RelCyclesCardSaid : Prop := Claim7.holds Tryd.pinned (.plain (OpenSpec.ofChange relCyclesSpec)) relCyclesCard

/-- THE TIED CARD OF 'burgagelaw02.RelChains'. -/
def relChainsCard : Claim7 := { stood := { row := relChainsRow, standIns := [], harness := (true, "f93cc060b8996161ea5cbdc0b4618eeb77f9c91a4aca7888a1735bb2afafe046"), looks := false }, kinds := [], alts := [], laidByText := true, laidKinds := [.data], laidTests := true, laidLooks := .later }
def RelChainsCardSaid : Prop := Claim7.holds Tryd.pinned (.plain (OpenSpec.ofChange relChainsSpec)) relChainsCard

/-- THE TIED CARD OF 'burgagelaw02.RelParts'. -/
def relPartsCard : Claim7 := { stood := { row := relPartsRow, standIns := [], harness := (true, "f93cc060b8996161ea5cbdc0b4618eeb77f9c91a4aca7888a1735bb2afafe046"), looks := false }, kinds := [], alts := [], laidByText := true, laidKinds := [.data], laidTests := true, laidLooks := .later }
def RelPartsCardSaid : Prop := Claim7.holds Tryd.pinned (.plain (OpenSpec.ofChange relPartsSpec)) relPartsCard

/-- THE TIED CARD OF 'burgagetop.WholeSteps'. -/
def wholeStepsCard : Claim7 := { stood := { row := wholeStepsRow, standIns := [], harness := (true, "f93cc060b8996161ea5cbdc0b4618eeb77f9c91a4aca7888a1735bb2afafe046"), looks := false }, kinds := [], alts := [], laidByText := true, laidKinds := [.data], laidTests := true, laidLooks := .later }
def WholeStepsCardSaid : Prop := Claim7.holds Tryd.pinned (.plain (OpenSpec.ofChange wholeStepsSpec)) wholeStepsCard

/-- THE SECOND FORM's CARD OF 'burgagelaw02.RelSorts'. -/
def relSortsUptoCard : Claim7 := { stood := { row := relSortsUptoRow, standIns := [], harness := (true, "f93cc060b8996161ea5cbdc0b4618eeb77f9c91a4aca7888a1735bb2afafe046"), looks := false }, kinds := [], alts := [], laidByText := true, laidKinds := [.data], laidTests := true, laidLooks := .later }
def RelSortsUptoCardSaid : Prop := Claim7.holds Tryd.pinned (.plain (OpenSpec.upto relSortsSpec)) relSortsUptoCard

/-- THE SECOND FORM's CARD OF 'burgagelaw02.RelCycles'. -/
def relCyclesUptoCard : Claim7 := { stood := { row := relCyclesUptoRow, standIns := [], harness := (true, "f93cc060b8996161ea5cbdc0b4618eeb77f9c91a4aca7888a1735bb2afafe046"), looks := false }, kinds := [], alts := [], laidByText := true, laidKinds := [.data], laidTests := true, laidLooks := .later }
def RelCyclesUptoCardSaid : Prop := Claim7.holds Tryd.pinned (.plain (OpenSpec.upto relCyclesSpec)) relCyclesUptoCard

/-- THE SECOND FORM's CARD OF 'burgagelaw02.RelChains'. -/
def relChainsUptoCard : Claim7 := { stood := { row := relChainsUptoRow, standIns := [], harness := (true, "f93cc060b8996161ea5cbdc0b4618eeb77f9c91a4aca7888a1735bb2afafe046"), looks := false }, kinds := [], alts := [], laidByText := true, laidKinds := [.data], laidTests := true, laidLooks := .later }
def RelChainsUptoCardSaid : Prop := Claim7.holds Tryd.pinned (.plain (OpenSpec.upto relChainsSpec)) relChainsUptoCard

/-- THE SECOND FORM's CARD OF 'burgagelaw02.RelParts'. -/
def relPartsUptoCard : Claim7 := { stood := { row := relPartsUptoRow, standIns := [], harness := (true, "f93cc060b8996161ea5cbdc0b4618eeb77f9c91a4aca7888a1735bb2afafe046"), looks := false }, kinds := [], alts := [], laidByText := true, laidKinds := [.data], laidTests := true, laidLooks := .later }
def RelPartsUptoCardSaid : Prop := Claim7.holds Tryd.pinned (.plain (OpenSpec.upto relPartsSpec)) relPartsUptoCard

/-- THE SECOND FORM's CARD OF 'burgagetop.WholeSteps'. -/
def wholeStepsUptoCard : Claim7 := { stood := { row := wholeStepsUptoRow, standIns := [], harness := (true, "f93cc060b8996161ea5cbdc0b4618eeb77f9c91a4aca7888a1735bb2afafe046"), looks := false }, kinds := [], alts := [], laidByText := true, laidKinds := [.data], laidTests := true, laidLooks := .later }
def WholeStepsUptoCardSaid : Prop := Claim7.holds Tryd.pinned (.plain (OpenSpec.upto wholeStepsSpec)) wholeStepsUptoCard
end Rows
end Go.Proofs.YtbpmcjndlbkkiaaDoor
