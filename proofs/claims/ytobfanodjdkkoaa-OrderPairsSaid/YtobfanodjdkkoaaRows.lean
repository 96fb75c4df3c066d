/-
  No cell of these rows narrows 'for every input' (looked for: loops, veiled, ifaces, maps, wideKeys, modest, calm, conditions, laid).
  DERIVED. THE GIVEN ROWS OF THIS SEAT. 8 by the template 'for every input the law returns true; each argument reads behind the call as it read before'; 0 by the template 'total and deterministic' (their statements: YtobfanodjdkkoaaTotals.lean).
  GIVEN WITH THE SEED: the statements are not yours to turn. If you find one false, say at which input.
  Laid BY PROGRAM, IN A SANDBOX (cutbox-rows.mjs): the forced cells as the released guide's own fill.sh prints them over the translation dd0ef787b33e0dc8… (all of the seat's roots in one cut). By AI agents, Wed Nov 11 2026. No macro, syntax, notation, axiom, sorry.
-/
import Derived.Test.YtobfanodjdkkoaaChecked
import GoSem.Claim
import GoSem.ClaimJoined
import GoSem.ClaimMapViews
import Derived.JoinedTies
import Derived.KernelRfl
namespace Go.Proofs.Ytobfanodjdkkoaa
/- THE CELL 'sum', in the pinned program and in every row, IS THE sha256 OF THE DUMP (.gsa) THAT YtobfanodjdkkoaaProg.lean LOADS. Nothing in Lean hashes anything: it is a label: what it is worth is what the hold of that sum in a sandbox is worth. -/
noncomputable def Try.pinned : Pinned := { name := "ytobfanodjdkkoaa", sum := "dd0ef787b33e0dc8a9a241d62031dae756bdade7d98d8a370865a6c535db5a8f", checked := Try.checked }
namespace Rows
def none {H : Type} : Left H := { results := [], args := [] }

/-- 'burgagelaw06.HistoryChecks': WHATEVER THE INPUT: true; the input reads as it did. -/
def historyChecksSpec : ChangeSpec := { name := "historyChecks", fn := fun _ => fun
  | [d] => { results := [.lit (.bool true)], args := [d] }
  | _ => none }
def historyChecksRow : OpenClaim := { program := "ytobfanodjdkkoaa", sum := "dd0ef787b33e0dc8a9a241d62031dae756bdade7d98d8a370865a6c535db5a8f", func := "burgage/burgagelaw06.HistoryChecks", spec := "historyChecks", unfollowed := true, recurses := true, apart := false }
def HistoryChecksSaid : Prop := historyChecksRow.holds Try.pinned (OpenSpec.ofChange historyChecksSpec)

/-- ITS FALSE NEIGHBOUR: 'it returns false'. Refute it at one input. -/
def historyChecksWrong : ChangeSpec := { name := "historyChecks", fn := fun _ => fun
  | [d] => { results := [.lit (.bool false)], args := [d] }
  | _ => none }
def HistoryChecksWrongFalsely : Prop := historyChecksRow.holds Try.pinned (OpenSpec.ofChange historyChecksWrong)

/-- 'burgagelaw06.HistoryWrites': WHATEVER THE INPUT: true; the input reads as it did. -/
def historyWritesSpec : ChangeSpec := { name := "historyWrites", fn := fun _ => fun
  | [d] => { results := [.lit (.bool true)], args := [d] }
  | _ => none }
def historyWritesRow : OpenClaim := { program := "ytobfanodjdkkoaa", sum := "dd0ef787b33e0dc8a9a241d62031dae756bdade7d98d8a370865a6c535db5a8f", func := "burgage/burgagelaw06.HistoryWrites", spec := "historyWrites", unfollowed := true, recurses := true, apart := false }
def HistoryWritesSaid : Prop := historyWritesRow.holds Try.pinned (OpenSpec.ofChange historyWritesSpec)

/-- ITS FALSE NEIGHBOUR: 'it returns false'. Refute it at one input. -/
def historyWritesWrong : ChangeSpec := { name := "historyWrites", fn := fun _ => fun
  | [d] => { results := [.lit (.bool false)], args := [d] }
  | _ => none }
def HistoryWritesWrongFalsely : Prop := historyWritesRow.holds Try.pinned (OpenSpec.ofChange historyWritesWrong)

/-- 'burgagelaw06.HistoryTwice': WHATEVER THE INPUT: true; the input reads as it did. -/
def historyTwiceSpec : ChangeSpec := { name := "historyTwice", fn := fun _ => fun
  | [d] => { results := [.lit (.bool true)], args := [d] }
  | _ => none }
def historyTwiceRow : OpenClaim := { program := "ytobfanodjdkkoaa", sum := "dd0ef787b33e0dc8a9a241d62031dae756bdade7d98d8a370865a6c535db5a8f", func := "burgage/burgagelaw06.HistoryTwice", spec := "historyTwice", unfollowed := true, recurses := true, apart := false }
def HistoryTwiceSaid : Prop := historyTwiceRow.holds Try.pinned (OpenSpec.ofChange historyTwiceSpec)

/-- ITS FALSE NEIGHBOUR: 'it returns false'. Refute it at one input. -/
def historyTwiceWrong : ChangeSpec := { name := "historyTwice", fn := fun _ => fun
  | [d] => { results := [.lit (.bool false)], args := [d] }
  | _ => none }
def HistoryTwiceWrongFalsely : Prop := historyTwiceRow.holds Try.pinned (OpenSpec.ofChange historyTwiceWrong)

/-- 'burgagelaw06.HistoryCopies': WHATEVER THE INPUT: true; the input reads as it did. -/
def historyCopiesSpec : ChangeSpec := { name := "historyCopies", fn := fun _ => fun
  | [d1, d2, d3] => { results := [.lit (.bool true)], args := [d1, d2, d3] }
  | _ => none }
def historyCopiesRow : OpenClaim := { program := "ytobfanodjdkkoaa", sum := "dd0ef787b33e0dc8a9a241d62031dae756bdade7d98d8a370865a6c535db5a8f", func := "burgage/burgagelaw06.HistoryCopies", spec := "historyCopies", unfollowed := true, recurses := true, apart := false }
def HistoryCopiesSaid : Prop := historyCopiesRow.holds Try.pinned (OpenSpec.ofChange historyCopiesSpec)

/-- ITS FALSE NEIGHBOUR: 'it returns false'. Refute it at one input. -/
def historyCopiesWrong : ChangeSpec := { name := "historyCopies", fn := fun _ => fun
  | [d1, d2, d3] => { results := [.lit (.bool false)], args := [d1, d2, d3] }
  | _ => none }
def HistoryCopiesWrongFalsely : Prop := historyCopiesRow.holds Try.pinned (OpenSpec.ofChange historyCopiesWrong)

/-- 'burgagelaw08.OrderOwn': WHATEVER THE INPUT: true; the input reads as it did. -/
def orderOwnSpec : ChangeSpec := { name := "orderOwn", fn := fun _ => fun
  | [d] => { results := [.lit (.bool true)], args := [d] }
  | _ => none }
def orderOwnRow : OpenClaim := { program := "ytobfanodjdkkoaa", sum := "dd0ef787b33e0dc8a9a241d62031dae756bdade7d98d8a370865a6c535db5a8f", func := "burgage/burgagelaw08.OrderOwn", spec := "orderOwn", unfollowed := true, recurses := true, apart := false }
def OrderOwnSaid : Prop := orderOwnRow.holds Try.pinned (OpenSpec.ofChange orderOwnSpec)

/-- ITS FALSE NEIGHBOUR: 'it returns false'. Refute it at one input. -/
def orderOwnWrong : ChangeSpec := { name := "orderOwn", fn := fun _ => fun
  | [d] => { results := [.lit (.bool false)], args := [d] }
  | _ => none }
def OrderOwnWrongFalsely : Prop := orderOwnRow.holds Try.pinned (OpenSpec.ofChange orderOwnWrong)

/-- 'burgagelaw08.OrderReads': WHATEVER THE INPUT: true; the input reads as it did. -/
def orderReadsSpec : ChangeSpec := { name := "orderReads", fn := fun _ => fun
  | [d] => { results := [.lit (.bool true)], args := [d] }
  | _ => none }
def orderReadsRow : OpenClaim := { program := "ytobfanodjdkkoaa", sum := "dd0ef787b33e0dc8a9a241d62031dae756bdade7d98d8a370865a6c535db5a8f", func := "burgage/burgagelaw08.OrderReads", spec := "orderReads", unfollowed := true, recurses := true, apart := false }
def OrderReadsSaid : Prop := orderReadsRow.holds Try.pinned (OpenSpec.ofChange orderReadsSpec)

/-- ITS FALSE NEIGHBOUR: 'it returns false'. Refute it at one input. -/
def orderReadsWrong : ChangeSpec := { name := "orderReads", fn := fun _ => fun
  | [d] => { results := [.lit (.bool false)], args := [d] }
  | _ => none }
def OrderReadsWrongFalsely : Prop := orderReadsRow.holds Try.pinned (OpenSpec.ofChange orderReadsWrong)

/-- 'burgagelaw08.OrderPairs': WHATEVER THE INPUT: true; the input reads as it did. -/
def orderPairsSpec : ChangeSpec := { name := "orderPairs", fn := fun _ => fun
  | [d] => { results := [.lit (.bool true)], args := [d] }
  | _ => none }
def orderPairsRow : OpenClaim := { program := "ytobfanodjdkkoaa", sum := "dd0ef787b33e0dc8a9a241d62031dae756bdade7d98d8a370865a6c535db5a8f", func := "burgage/burgagelaw08.OrderPairs", spec := "orderPairs", unfollowed := true, recurses := true, apart := false }
def OrderPairsSaid : Prop := orderPairsRow.holds Try.pinned (OpenSpec.ofChange orderPairsSpec)

/-- ITS FALSE NEIGHBOUR: 'it returns false'. Refute it at one input. -/
def orderPairsWrong : ChangeSpec := { name := "orderPairs", fn := fun _ => fun
  | [d] => { results := [.lit (.bool false)], args := [d] }
  | _ => none }
def OrderPairsWrongFalsely : Prop := orderPairsRow.holds Try.pinned (OpenSpec.ofChange orderPairsWrong)

/-- 'burgagelaw21.RenameBack': WHATEVER THE INPUT: true; the input reads as it did. -/
def renameBackSpec : ChangeSpec := { name := "renameBack", fn := fun _ => fun
  | [d1, d2] => { results := [.lit (.bool true)], args := [d1, d2] }
  | _ => none }
def renameBackRow : OpenClaim := { program := "ytobfanodjdkkoaa", sum := "dd0ef787b33e0dc8a9a241d62031dae756bdade7d98d8a370865a6c535db5a8f", func := "burgage/burgagelaw21.RenameBack", spec := "renameBack", unfollowed := true, recurses := true, apart := false }
def RenameBackSaid : Prop := renameBackRow.holds Try.pinned (OpenSpec.ofChange renameBackSpec)

/-- ITS FALSE NEIGHBOUR: 'it returns false'. Refute it at one input. -/
def renameBackWrong : ChangeSpec := { name := "renameBack", fn := fun _ => fun
  | [d1, d2] => { results := [.lit (.bool false)], args := [d1, d2] }
  | _ => none }
def RenameBackWrongFalsely : Prop := renameBackRow.holds Try.pinned (OpenSpec.ofChange renameBackWrong)

/- THE SECOND FORM. 'bulk': how many values and letters a reading holds, each counted each time it is reached (what is shared counts as often as it is met; a slice's spare places count too). A statement '..UptoSaid' is the law's where the arguments, and the package variables that the reading takes, are together of bulk at most 1048576: NARROWER than '..Said'. Prove '..Said' where nothing that the law and all that it calls make is longer than what came in: it says more and counts as full. Else prove '..UptoSaid'. A law counts once. -/
mutual
def uptoBulk {H : Type} : DataW H → Nat
  | .lit (.string bytes) => bytes.length + 1
  | .lit _ => 1
  | .nil => 1
  | .ptr d => uptoBulk d + 1
  | .slice elems spare => uptoBulkAll elems + uptoBulkAll spare + 1
  | .agg parts => uptoBulkAll parts + 1
  | .iface _ d => uptoBulk d + 1
  | .map entries => uptoBulkEntries entries + 1
  | .held _ => 1
def uptoBulkAll {H : Type} : List (DataW H) → Nat
  | [] => 0
  | d :: r => uptoBulk d + uptoBulkAll r
def uptoBulkEntries {H : Type} : List (Lit × DataW H) → Nat
  | [] => 0
  | x :: r => uptoBulkEntry x + uptoBulkEntries r
def uptoBulkEntry {H : Type} : Lit × DataW H → Nat
  | (.string bytes, d) => bytes.length + uptoBulk d + 1
  | (_, d) => uptoBulk d + 1
 end
def uptoSmall : (H : Type) → List (DataW H) → Bool := fun _ ds => decide (uptoBulkAll ds ≤ 1048576)
def OpenSpec.upto (s : _root_.Go.ChangeSpec) : _root_.Go.OpenSpec := { _root_.Go.OpenSpec.ofChange s with cond := some uptoSmall }

/-- 'burgagelaw06.HistoryChecks', WHERE WHAT IT READS IS OF BULK AT MOST 1048576: true; the input reads as it did. -/
def historyChecksUptoRow : OpenClaim := { program := "ytobfanodjdkkoaa", sum := "dd0ef787b33e0dc8a9a241d62031dae756bdade7d98d8a370865a6c535db5a8f", func := "burgage/burgagelaw06.HistoryChecks", spec := "historyChecks", unfollowed := true, recurses := true, apart := false, narrowed := true }
def HistoryChecksUptoSaid : Prop := historyChecksUptoRow.holds Try.pinned (OpenSpec.upto historyChecksSpec)

/-- 'burgagelaw06.HistoryWrites', WHERE WHAT IT READS IS OF BULK AT MOST 1048576: true; the input reads as it did. -/
def historyWritesUptoRow : OpenClaim := { program := "ytobfanodjdkkoaa", sum := "dd0ef787b33e0dc8a9a241d62031dae756bdade7d98d8a370865a6c535db5a8f", func := "burgage/burgagelaw06.HistoryWrites", spec := "historyWrites", unfollowed := true, recurses := true, apart := false, narrowed := true }
def HistoryWritesUptoSaid : Prop := historyWritesUptoRow.holds Try.pinned (OpenSpec.upto historyWritesSpec)

/-- 'burgagelaw06.HistoryTwice', WHERE WHAT IT READS IS OF BULK AT MOST 1048576: true; the input reads as it did. -/
def historyTwiceUptoRow : OpenClaim := { program := "ytobfanodjdkkoaa", sum := "dd0ef787b33e0dc8a9a241d62031dae756bdade7d98d8a370865a6c535db5a8f", func := "burgage/burgagelaw06.HistoryTwice", spec := "historyTwice", unfollowed := true, recurses := true, apart := false, narrowed := true }
def HistoryTwiceUptoSaid : Prop := historyTwiceUptoRow.holds Try.pinned (OpenSpec.upto historyTwiceSpec)

/-- 'burgagelaw06.HistoryCopies', WHERE WHAT IT READS IS OF BULK AT MOST 1048576: true; the input reads as it did. -/
def historyCopiesUptoRow : OpenClaim := { program := "ytobfanodjdkkoaa", sum := "dd0ef787b33e0dc8a9a241d62031dae756bdade7d98d8a370865a6c535db5a8f", func := "burgage/burgagelaw06.HistoryCopies", spec := "historyCopies", unfollowed := true, recurses := true, apart := false, narrowed := true }
def HistoryCopiesUptoSaid : Prop := historyCopiesUptoRow.holds Try.pinned (OpenSpec.upto historyCopiesSpec)

/-- 'burgagelaw08.OrderOwn', WHERE WHAT IT READS IS OF BULK AT MOST 1048576: true; the input reads as it did. -/
def orderOwnUptoRow : OpenClaim := { program := "ytobfanodjdkkoaa", sum := "dd0ef787b33e0dc8a9a241d62031dae756bdade7d98d8a370865a6c535db5a8f", func := "burgage/burgagelaw08.OrderOwn", spec := "orderOwn", unfollowed := true, recurses := true, apart := false, narrowed := true }
def OrderOwnUptoSaid : Prop := orderOwnUptoRow.holds Try.pinned (OpenSpec.upto orderOwnSpec)

/-- 'burgagelaw08.OrderReads', WHERE WHAT IT READS IS OF BULK AT MOST 1048576: true; the input reads as it did. -/
def orderReadsUptoRow : OpenClaim := { program := "ytobfanodjdkkoaa", sum := "dd0ef787b33e0dc8a9a241d62031dae756bdade7d98d8a370865a6c535db5a8f", func := "burgage/burgagelaw08.OrderReads", spec := "orderReads", unfollowed := true, recurses := true, apart := false, narrowed := true }
def OrderReadsUptoSaid : Prop := orderReadsUptoRow.holds Try.pinned (OpenSpec.upto orderReadsSpec)

/-- 'burgagelaw08.OrderPairs', WHERE WHAT IT READS IS OF BULK AT MOST 1048576: true; the input reads as it did. -/
def orderPairsUptoRow : OpenClaim := { program := "ytobfanodjdkkoaa", sum := "dd0ef787b33e0dc8a9a241d62031dae756bdade7d98d8a370865a6c535db5a8f", func := "burgage/burgagelaw08.OrderPairs", spec := "orderPairs", unfollowed := true, recurses := true, apart := false, narrowed := true }
def OrderPairsUptoSaid : Prop := orderPairsUptoRow.holds Try.pinned (OpenSpec.upto orderPairsSpec)

/-- 'burgagelaw21.RenameBack', WHERE WHAT IT READS IS OF BULK AT MOST 1048576: true; the input reads as it did. -/
def renameBackUptoRow : OpenClaim := { program := "ytobfanodjdkkoaa", sum := "dd0ef787b33e0dc8a9a241d62031dae756bdade7d98d8a370865a6c535db5a8f", func := "burgage/burgagelaw21.RenameBack", spec := "renameBack", unfollowed := true, recurses := true, apart := false, narrowed := true }
def RenameBackUptoSaid : Prop := renameBackUptoRow.holds Try.pinned (OpenSpec.upto renameBackSpec)

end Rows
end Go.Proofs.Ytobfanodjdkkoaa
