/-
  DERIVED. GIVEN WITH THE SEED: THE CARDS: each row of YtobfanodjdkkoaaDoorRows.lean that lists a variable, with what it lists TIED to the program's text (the seventh form; the later family's looks); each row that meets fmt, with fmt's text TOLD by the authors' own Lean function (tested against real Go, not proved from fmt's source: count such statements apart). THE CARD IS WHAT COUNTS. Prove the row's statement (the work); the ties are given (YtobfanodjdkkoaaDoorTie.lean); close each card by the builder's one call (the guide's Derived/Test/ToyasCard.lean, 'card_holds'). Laid BY PROGRAM, IN A SANDBOX (cutbox-door.mjs). By AI agents, Wed Nov 11 2026. No macro, syntax, notation, axiom, sorry.
-/
import Derived.Test.YtobfanodjdkkoaaDoorRows
import GoSem.ClaimSeven
namespace Go.Proofs.YtobfanodjdkkoaaDoor
namespace Rows

/-- THE TIED CARD OF 'burgagelaw05.TxnParts'. -/
def txnPartsCard : Claim7 := { stood := { row := txnPartsRow, standIns := [], harness := (true, "a2682cbd79c991c5b3df24eae621f6d5a0ce1592a9c5beab19fb832a2db8af51"), looks := false }, kinds := [], alts := [], laidByText := true, laidKinds := [.data, .data, .data], laidTests := true, laidLooks := .later }
def TxnPartsCardSaid : Prop := Claim7.holds Tryd.pinned (.plain (OpenSpec.ofChange txnPartsSpec)) txnPartsCard

/-- THE TIED CARD OF 'burgagelaw05.TxnRight'. -/
def txnRightCard : Claim7 := { stood := { row := txnRightRow, standIns := [], harness := (true, "a2682cbd79c991c5b3df24eae621f6d5a0ce1592a9c5beab19fb832a2db8af51"), looks := false }, kinds := [], alts := [], laidByText := true, laidKinds := [.data, .data, .data], laidTests := true, laidLooks := .later }
def TxnRightCardSaid : Prop := Claim7.holds Tryd.pinned (.plain (OpenSpec.ofChange txnRightSpec)) txnRightCard

/-- THE TIED CARD OF 'burgagelaw05.TxnOwn'. -/
def txnOwnCard : Claim7 := { stood := { row := txnOwnRow, standIns := [], harness := (true, "a2682cbd79c991c5b3df24eae621f6d5a0ce1592a9c5beab19fb832a2db8af51"), looks := false }, kinds := [], alts := [], laidByText := true, laidKinds := [.data, .data, .data], laidTests := true, laidLooks := .later }
def TxnOwnCardSaid : Prop := Claim7.holds Tryd.pinned (.plain (OpenSpec.ofChange txnOwnSpec)) txnOwnCard

/-- THE SECOND FORM's CARD OF 'burgagelaw05.TxnParts'. -/
def txnPartsUptoCard : Claim7 := { stood := { row := txnPartsUptoRow, standIns := [], harness := (true, "a2682cbd79c991c5b3df24eae621f6d5a0ce1592a9c5beab19fb832a2db8af51"), looks := false }, kinds := [], alts := [], laidByText := true, laidKinds := [.data, .data, .data], laidTests := true, laidLooks := .later }
def TxnPartsUptoCardSaid : Prop := Claim7.holds Tryd.pinned (.plain (OpenSpec.upto txnPartsSpec)) txnPartsUptoCard

/-- THE SECOND FORM's CARD OF 'burgagelaw05.TxnRight'. -/
def txnRightUptoCard : Claim7 := { stood := { row := txnRightUptoRow, standIns := [], harness := (true, "a2682cbd79c991c5b3df24eae621f6d5a0ce1592a9c5beab19fb832a2db8af51"), looks := false }, kinds := [], alts := [], laidByText := true, laidKinds := [.data, .data, .data], laidTests := true, laidLooks := .later }
def TxnRightUptoCardSaid : Prop := Claim7.holds Tryd.pinned (.plain (OpenSpec.upto txnRightSpec)) txnRightUptoCard

/-- THE SECOND FORM's CARD OF 'burgagelaw05.TxnOwn'. -/
def txnOwnUptoCard : Claim7 := { stood := { row := txnOwnUptoRow, standIns := [], harness := (true, "a2682cbd79c991c5b3df24eae621f6d5a0ce1592a9c5beab19fb832a2db8af51"), looks := false }, kinds := [], alts := [], laidByText := true, laidKinds := [.data, .data, .data], laidTests := true, laidLooks := .later }
def TxnOwnUptoCardSaid : Prop := Claim7.holds Tryd.pinned (.plain (OpenSpec.upto txnOwnSpec)) txnOwnUptoCard
end Rows
end Go.Proofs.YtobfanodjdkkoaaDoor
