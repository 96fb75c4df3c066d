/-
  No cell of these rows narrows 'for every input' (looked for: loops, veiled, ifaces, maps, wideKeys, modest, calm, conditions, laid).
  DERIVED. THE GIVEN ROWS OF THIS SEAT. 8 by the template 'for every input the law returns true; each argument reads behind the call as it read before'; 0 by the template 'total and deterministic' (their statements: YtkpkdacifbolkaaTotals.lean).
  GIVEN WITH THE SEED: the statements are not yours to turn. If you find one false, say at which input.
  Laid BY PROGRAM, IN A SANDBOX (cutbox-rows.mjs): the forced cells as the released guide's own fill.sh prints them over the translation c3c14a7c4528f390… (all of the seat's roots in one cut). By AI agents, Wed Nov 11 2026. No macro, syntax, notation, axiom, sorry.
-/
import Derived.Test.YtkpkdacifbolkaaChecked
import GoSem.Claim
import GoSem.ClaimJoined
import GoSem.ClaimMapViews
import Derived.JoinedTies
import Derived.KernelRfl
namespace Go.Proofs.Ytkpkdacifbolkaa
/- THE CELL 'sum', in the pinned program and in every row, IS THE sha256 OF THE DUMP (.gsa) THAT YtkpkdacifbolkaaProg.lean LOADS. Nothing in Lean hashes anything: it is a label: what it is worth is what the hold of that sum in a sandbox is worth. -/
noncomputable def Try.pinned : Pinned := { name := "ytkpkdacifbolkaa", sum := "c3c14a7c4528f39072dba0d3b507a3839de8c79d68a78ce9f60dc12dede8c31c", checked := Try.checked }
namespace Rows
def none {H : Type} : Left H := { results := [], args := [] }

/-- 'burgagelaw16.FuelBounds': WHATEVER THE INPUT: true; the input reads as it did. -/
def fuelBoundsSpec : ChangeSpec := { name := "fuelBounds", fn := fun _ => fun
  | [d] => { results := [.lit (.bool true)], args := [d] }
  | _ => none }
def fuelBoundsRow : OpenClaim := { program := "ytkpkdacifbolkaa", sum := "c3c14a7c4528f39072dba0d3b507a3839de8c79d68a78ce9f60dc12dede8c31c", func := "burgage/burgagelaw16.FuelBounds", spec := "fuelBounds", apart := false }
def FuelBoundsSaid : Prop := fuelBoundsRow.holds Try.pinned (OpenSpec.ofChange fuelBoundsSpec)

/-- ITS FALSE NEIGHBOUR: 'it returns false'. Refute it at one input. -/
def fuelBoundsWrong : ChangeSpec := { name := "fuelBounds", fn := fun _ => fun
  | [d] => { results := [.lit (.bool false)], args := [d] }
  | _ => none }
def FuelBoundsWrongFalsely : Prop := fuelBoundsRow.holds Try.pinned (OpenSpec.ofChange fuelBoundsWrong)

/-- 'burgagelaw16.FuelMeters': WHATEVER THE INPUT: true; the input reads as it did. -/
def fuelMetersSpec : ChangeSpec := { name := "fuelMeters", fn := fun _ => fun
  | [d1, d2] => { results := [.lit (.bool true)], args := [d1, d2] }
  | _ => none }
def fuelMetersRow : OpenClaim := { program := "ytkpkdacifbolkaa", sum := "c3c14a7c4528f39072dba0d3b507a3839de8c79d68a78ce9f60dc12dede8c31c", func := "burgage/burgagelaw16.FuelMeters", spec := "fuelMeters", apart := false }
def FuelMetersSaid : Prop := fuelMetersRow.holds Try.pinned (OpenSpec.ofChange fuelMetersSpec)

/-- ITS FALSE NEIGHBOUR: 'it returns false'. Refute it at one input. -/
def fuelMetersWrong : ChangeSpec := { name := "fuelMeters", fn := fun _ => fun
  | [d1, d2] => { results := [.lit (.bool false)], args := [d1, d2] }
  | _ => none }
def FuelMetersWrongFalsely : Prop := fuelMetersRow.holds Try.pinned (OpenSpec.ofChange fuelMetersWrong)

/-- 'burgagelaw16.FuelTries': WHATEVER THE INPUT: true; the input reads as it did. -/
def fuelTriesSpec : ChangeSpec := { name := "fuelTries", fn := fun _ => fun
  | [d] => { results := [.lit (.bool true)], args := [d] }
  | _ => none }
def fuelTriesRow : OpenClaim := { program := "ytkpkdacifbolkaa", sum := "c3c14a7c4528f39072dba0d3b507a3839de8c79d68a78ce9f60dc12dede8c31c", func := "burgage/burgagelaw16.FuelTries", spec := "fuelTries", recurses := true, apart := false }
def FuelTriesSaid : Prop := fuelTriesRow.holds Try.pinned (OpenSpec.ofChange fuelTriesSpec)

/-- ITS FALSE NEIGHBOUR: 'it returns false'. Refute it at one input. -/
def fuelTriesWrong : ChangeSpec := { name := "fuelTries", fn := fun _ => fun
  | [d] => { results := [.lit (.bool false)], args := [d] }
  | _ => none }
def FuelTriesWrongFalsely : Prop := fuelTriesRow.holds Try.pinned (OpenSpec.ofChange fuelTriesWrong)

/-- 'burgagelaw10.TableOrder': WHATEVER THE INPUT: true; the input reads as it did. -/
def tableOrderSpec : ChangeSpec := { name := "tableOrder", fn := fun _ => fun
  | [d1, d2, d3] => { results := [.lit (.bool true)], args := [d1, d2, d3] }
  | _ => none }
def tableOrderRow : OpenClaim := { program := "ytkpkdacifbolkaa", sum := "c3c14a7c4528f39072dba0d3b507a3839de8c79d68a78ce9f60dc12dede8c31c", func := "burgage/burgagelaw10.TableOrder", spec := "tableOrder", apart := false }
def TableOrderSaid : Prop := tableOrderRow.holds Try.pinned (OpenSpec.ofChange tableOrderSpec)

/-- ITS FALSE NEIGHBOUR: 'it returns false'. Refute it at one input. -/
def tableOrderWrong : ChangeSpec := { name := "tableOrder", fn := fun _ => fun
  | [d1, d2, d3] => { results := [.lit (.bool false)], args := [d1, d2, d3] }
  | _ => none }
def TableOrderWrongFalsely : Prop := tableOrderRow.holds Try.pinned (OpenSpec.ofChange tableOrderWrong)

/-- 'burgagelaw09.LevelNames': WHATEVER THE INPUT: true; the input reads as it did. -/
def levelNamesSpec : ChangeSpec := { name := "levelNames", fn := fun _ => fun
  | [d1, d2] => { results := [.lit (.bool true)], args := [d1, d2] }
  | _ => none }
def levelNamesRow : OpenClaim := { program := "ytkpkdacifbolkaa", sum := "c3c14a7c4528f39072dba0d3b507a3839de8c79d68a78ce9f60dc12dede8c31c", func := "burgage/burgagelaw09.LevelNames", spec := "levelNames", apart := false }
def LevelNamesSaid : Prop := levelNamesRow.holds Try.pinned (OpenSpec.ofChange levelNamesSpec)

/-- ITS FALSE NEIGHBOUR: 'it returns false'. Refute it at one input. -/
def levelNamesWrong : ChangeSpec := { name := "levelNames", fn := fun _ => fun
  | [d1, d2] => { results := [.lit (.bool false)], args := [d1, d2] }
  | _ => none }
def LevelNamesWrongFalsely : Prop := levelNamesRow.holds Try.pinned (OpenSpec.ofChange levelNamesWrong)

/-- 'burgagelaw09.LevelCloses': WHATEVER THE INPUT: true; the input reads as it did. -/
def levelClosesSpec : ChangeSpec := { name := "levelCloses", fn := fun _ => fun
  | [d1, d2] => { results := [.lit (.bool true)], args := [d1, d2] }
  | _ => none }
def levelClosesRow : OpenClaim := { program := "ytkpkdacifbolkaa", sum := "c3c14a7c4528f39072dba0d3b507a3839de8c79d68a78ce9f60dc12dede8c31c", func := "burgage/burgagelaw09.LevelCloses", spec := "levelCloses", apart := false }
def LevelClosesSaid : Prop := levelClosesRow.holds Try.pinned (OpenSpec.ofChange levelClosesSpec)

/-- ITS FALSE NEIGHBOUR: 'it returns false'. Refute it at one input. -/
def levelClosesWrong : ChangeSpec := { name := "levelCloses", fn := fun _ => fun
  | [d1, d2] => { results := [.lit (.bool false)], args := [d1, d2] }
  | _ => none }
def LevelClosesWrongFalsely : Prop := levelClosesRow.holds Try.pinned (OpenSpec.ofChange levelClosesWrong)

/-- 'burgagelaw10.TableImplies': WHATEVER THE INPUT: true; the input reads as it did. -/
def tableImpliesSpec : ChangeSpec := { name := "tableImplies", fn := fun _ => fun
  | [d1, d2] => { results := [.lit (.bool true)], args := [d1, d2] }
  | _ => none }
def tableImpliesRow : OpenClaim := { program := "ytkpkdacifbolkaa", sum := "c3c14a7c4528f39072dba0d3b507a3839de8c79d68a78ce9f60dc12dede8c31c", func := "burgage/burgagelaw10.TableImplies", spec := "tableImplies", apart := false }
def TableImpliesSaid : Prop := tableImpliesRow.holds Try.pinned (OpenSpec.ofChange tableImpliesSpec)

/-- ITS FALSE NEIGHBOUR: 'it returns false'. Refute it at one input. -/
def tableImpliesWrong : ChangeSpec := { name := "tableImplies", fn := fun _ => fun
  | [d1, d2] => { results := [.lit (.bool false)], args := [d1, d2] }
  | _ => none }
def TableImpliesWrongFalsely : Prop := tableImpliesRow.holds Try.pinned (OpenSpec.ofChange tableImpliesWrong)

/-- 'burgagelaw10.TableRows': WHATEVER THE INPUT: true; the input reads as it did. -/
def tableRowsSpec : ChangeSpec := { name := "tableRows", fn := fun _ => fun
  | [d] => { results := [.lit (.bool true)], args := [d] }
  | _ => none }
def tableRowsRow : OpenClaim := { program := "ytkpkdacifbolkaa", sum := "c3c14a7c4528f39072dba0d3b507a3839de8c79d68a78ce9f60dc12dede8c31c", func := "burgage/burgagelaw10.TableRows", spec := "tableRows", apart := false }
def TableRowsSaid : Prop := tableRowsRow.holds Try.pinned (OpenSpec.ofChange tableRowsSpec)

/-- ITS FALSE NEIGHBOUR: 'it returns false'. Refute it at one input. -/
def tableRowsWrong : ChangeSpec := { name := "tableRows", fn := fun _ => fun
  | [d] => { results := [.lit (.bool false)], args := [d] }
  | _ => none }
def TableRowsWrongFalsely : Prop := tableRowsRow.holds Try.pinned (OpenSpec.ofChange tableRowsWrong)

/- THE SECOND FORM. 'bulk': how many values and letters a reading holds, each counted each time it is reached (what is shared counts as often as it is met; a slice's spare places count too). A statement '..UptoSaid' is the law's where the arguments, and the package variables that the reading takes, are together of bulk at most 1048576: NARROWER than '..Said'. Prove '..Said' where nothing that the law and all that it calls make is longer than what came in: it says more and counts as full. Else prove '..UptoSaid'. A law counts once. -/
mutual
def uptoBulk {H : Type} : DataW H → Nat
  | .lit (.string bytes) => bytes.length + 1
  | .lit _ => 1
  | .nil => 1
  | .ptr d => uptoBulk d + 1
  | .slice elems spare => uptoBulkAll elems + uptoBulkAll spare + 1
  | .agg parts => uptoBulkAll parts + 1
  | .iface _ d => uptoBulk d + 1
  | .map entries => uptoBulkEntries entries + 1
  | .held _ => 1
def uptoBulkAll {H : Type} : List (DataW H) → Nat
  | [] => 0
  | d :: r => uptoBulk d + uptoBulkAll r
def uptoBulkEntries {H : Type} : List (Lit × DataW H) → Nat
  | [] => 0
  | x :: r => uptoBulkEntry x + uptoBulkEntries r
def uptoBulkEntry {H : Type} : Lit × DataW H → Nat
  | (.string bytes, d) => bytes.length + uptoBulk d + 1
  | (_, d) => uptoBulk d + 1
 end
def uptoSmall : (H : Type) → List (DataW H) → Bool := fun _ ds => decide (uptoBulkAll ds ≤ 1048576)
def OpenSpec.upto (s : _root_.Go.ChangeSpec) : _root_.Go.OpenSpec := { _root_.Go.OpenSpec.ofChange s with cond := some uptoSmall }

/-- 'burgagelaw16.FuelBounds', WHERE WHAT IT READS IS OF BULK AT MOST 1048576: true; the input reads as it did. -/
def fuelBoundsUptoRow : OpenClaim := { program := "ytkpkdacifbolkaa", sum := "c3c14a7c4528f39072dba0d3b507a3839de8c79d68a78ce9f60dc12dede8c31c", func := "burgage/burgagelaw16.FuelBounds", spec := "fuelBounds", apart := false, narrowed := true }
def FuelBoundsUptoSaid : Prop := fuelBoundsUptoRow.holds Try.pinned (OpenSpec.upto fuelBoundsSpec)

/-- 'burgagelaw16.FuelMeters', WHERE WHAT IT READS IS OF BULK AT MOST 1048576: true; the input reads as it did. -/
def fuelMetersUptoRow : OpenClaim := { program := "ytkpkdacifbolkaa", sum := "c3c14a7c4528f39072dba0d3b507a3839de8c79d68a78ce9f60dc12dede8c31c", func := "burgage/burgagelaw16.FuelMeters", spec := "fuelMeters", apart := false, narrowed := true }
def FuelMetersUptoSaid : Prop := fuelMetersUptoRow.holds Try.pinned (OpenSpec.upto fuelMetersSpec)

/-- 'burgagelaw16.FuelTries', WHERE WHAT IT READS IS OF BULK AT MOST 1048576: true; the input reads as it did. -/
def fuelTriesUptoRow : OpenClaim := { program := "ytkpkdacifbolkaa", sum := "c3c14a7c4528f39072dba0d3b507a3839de8c79d68a78ce9f60dc12dede8c31c", func := "burgage/burgagelaw16.FuelTries", spec := "fuelTries", recurses := true, apart := false, narrowed := true }
def FuelTriesUptoSaid : Prop := fuelTriesUptoRow.holds Try.pinned (OpenSpec.upto fuelTriesSpec)

/-- 'burgagelaw10.TableOrder', WHERE WHAT IT READS IS OF BULK AT MOST 1048576: true; the input reads as it did. -/
def tableOrderUptoRow : OpenClaim := { program := "ytkpkdacifbolkaa", sum := "c3c14a7c4528f39072dba0d3b507a3839de8c79d68a78ce9f60dc12dede8c31c", func := "burgage/burgagelaw10.TableOrder", spec := "tableOrder", apart := false, narrowed := true }
def TableOrderUptoSaid : Prop := tableOrderUptoRow.holds Try.pinned (OpenSpec.upto tableOrderSpec)

/-- 'burgagelaw09.LevelNames', WHERE WHAT IT READS IS OF BULK AT MOST 1048576: true; the input reads as it did. -/
def levelNamesUptoRow : OpenClaim := { program := "ytkpkdacifbolkaa", sum := "c3c14a7c4528f39072dba0d3b507a3839de8c79d68a78ce9f60dc12dede8c31c", func := "burgage/burgagelaw09.LevelNames", spec := "levelNames", apart := false, narrowed := true }
def LevelNamesUptoSaid : Prop := levelNamesUptoRow.holds Try.pinned (OpenSpec.upto levelNamesSpec)

/-- 'burgagelaw09.LevelCloses', WHERE WHAT IT READS IS OF BULK AT MOST 1048576: true; the input reads as it did. -/
def levelClosesUptoRow : OpenClaim := { program := "ytkpkdacifbolkaa", sum := "c3c14a7c4528f39072dba0d3b507a3839de8c79d68a78ce9f60dc12dede8c31c", func := "burgage/burgagelaw09.LevelCloses", spec := "levelCloses", apart := false, narrowed := true }
def LevelClosesUptoSaid : Prop := levelClosesUptoRow.holds Try.pinned (OpenSpec.upto levelClosesSpec)

/-- 'burgagelaw10.TableImplies', WHERE WHAT IT READS IS OF BULK AT MOST 1048576: true; the input reads as it did. -/
def tableImpliesUptoRow : OpenClaim := { program := "ytkpkdacifbolkaa", sum := "c3c14a7c4528f39072dba0d3b507a3839de8c79d68a78ce9f60dc12dede8c31c", func := "burgage/burgagelaw10.TableImplies", spec := "tableImplies", apart := false, narrowed := true }
def TableImpliesUptoSaid : Prop := tableImpliesUptoRow.holds Try.pinned (OpenSpec.upto tableImpliesSpec)

/-- 'burgagelaw10.TableRows', WHERE WHAT IT READS IS OF BULK AT MOST 1048576: true; the input reads as it did. -/
def tableRowsUptoRow : OpenClaim := { program := "ytkpkdacifbolkaa", sum := "c3c14a7c4528f39072dba0d3b507a3839de8c79d68a78ce9f60dc12dede8c31c", func := "burgage/burgagelaw10.TableRows", spec := "tableRows", apart := false, narrowed := true }
def TableRowsUptoSaid : Prop := tableRowsUptoRow.holds Try.pinned (OpenSpec.upto tableRowsSpec)

end Rows
end Go.Proofs.Ytkpkdacifbolkaa
