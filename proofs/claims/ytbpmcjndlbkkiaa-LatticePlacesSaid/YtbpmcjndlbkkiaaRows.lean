/-
  No cell of these rows narrows 'for every input' (looked for: loops, veiled, ifaces, maps, wideKeys, modest, calm, conditions, laid).
  DERIVED. THE GIVEN ROWS OF THIS SEAT. 2 by the template 'for every input the law returns true; each argument reads behind the call as it read before'; 0 by the template 'total and deterministic' (their statements: YtbpmcjndlbkkiaaTotals.lean).
  GIVEN WITH THE SEED: the statements are not yours to turn. If you find one false, say at which input.
  Laid BY PROGRAM, IN A SANDBOX (cutbox-rows.mjs): the forced cells as the released guide's own fill.sh prints them over the translation 37269ec94a4c64b7… (all of the seat's roots in one cut). By AI agents, Wed Nov 11 2026. No macro, syntax, notation, axiom, sorry.
-/
import Derived.Test.YtbpmcjndlbkkiaaChecked
import GoSem.Claim
import GoSem.ClaimJoined
import GoSem.ClaimMapViews
import Derived.JoinedTies
import Derived.KernelRfl
namespace Go.Proofs.Ytbpmcjndlbkkiaa
/- THE CELL 'sum', in the pinned program and in every row, IS THE sha256 OF THE DUMP (.gsa) THAT YtbpmcjndlbkkiaaProg.lean LOADS. Nothing in Lean hashes anything: it is a label: what it is worth is what the hold of that sum in a sandbox is worth. -/
noncomputable def Try.pinned : Pinned := { name := "ytbpmcjndlbkkiaa", sum := "37269ec94a4c64b732f1e3e027fb7af87586ce1d5010c3b3eedeca0ef5208f21", checked := Try.checked }
namespace Rows
def none {H : Type} : Left H := { results := [], args := [] }

/-- 'burgagelaw19.LatticePlaces': WHATEVER THE INPUT: true; the input reads as it did. -/
def latticePlacesSpec : ChangeSpec := { name := "latticePlaces", fn := fun _ => fun
  | [d] => { results := [.lit (.bool true)], args := [d] }
  | _ => none }
def latticePlacesRow : OpenClaim := { program := "ytbpmcjndlbkkiaa", sum := "37269ec94a4c64b732f1e3e027fb7af87586ce1d5010c3b3eedeca0ef5208f21", func := "burgage/burgagelaw19.LatticePlaces", spec := "latticePlaces", inPlace := ["internal/abi.NoEscape", "internal/bytealg.MakeNoZero"], apart := false }
def LatticePlacesSaid : Prop := latticePlacesRow.holds Try.pinned (OpenSpec.ofChange latticePlacesSpec)

/-- ITS FALSE NEIGHBOUR: 'it returns false'. Refute it at one input. -/
def latticePlacesWrong : ChangeSpec := { name := "latticePlaces", fn := fun _ => fun
  | [d] => { results := [.lit (.bool false)], args := [d] }
  | _ => none }
def LatticePlacesWrongFalsely : Prop := latticePlacesRow.holds Try.pinned (OpenSpec.ofChange latticePlacesWrong)

/-- 'burgagelaw19.LatticeBack': WHATEVER THE INPUT: true; the input reads as it did. -/
def latticeBackSpec : ChangeSpec := { name := "latticeBack", fn := fun _ => fun
  | [d] => { results := [.lit (.bool true)], args := [d] }
  | _ => none }
def latticeBackRow : OpenClaim := { program := "ytbpmcjndlbkkiaa", sum := "37269ec94a4c64b732f1e3e027fb7af87586ce1d5010c3b3eedeca0ef5208f21", func := "burgage/burgagelaw19.LatticeBack", spec := "latticeBack", inPlace := ["internal/abi.NoEscape", "internal/bytealg.MakeNoZero"], apart := false }
def LatticeBackSaid : Prop := latticeBackRow.holds Try.pinned (OpenSpec.ofChange latticeBackSpec)

/-- ITS FALSE NEIGHBOUR: 'it returns false'. Refute it at one input. -/
def latticeBackWrong : ChangeSpec := { name := "latticeBack", fn := fun _ => fun
  | [d] => { results := [.lit (.bool false)], args := [d] }
  | _ => none }
def LatticeBackWrongFalsely : Prop := latticeBackRow.holds Try.pinned (OpenSpec.ofChange latticeBackWrong)

/- THE SECOND FORM. 'bulk': how many values and letters a reading holds, each counted each time it is reached (what is shared counts as often as it is met; a slice's spare places count too). A statement '..UptoSaid' is the law's where the arguments, and the package variables that the reading takes, are together of bulk at most 1048576: NARROWER than '..Said'. Prove '..Said' where nothing that the law and all that it calls make is longer than what came in: it says more and counts as full. Else prove '..UptoSaid'. A law counts once. -/
mutual
def uptoBulk {H : Type} : DataW H → Nat
  | .lit (.string bytes) => bytes.length + 1
  | .lit _ => 1
  | .nil => 1
  | .ptr d => uptoBulk d + 1
  | .slice elems spare => uptoBulkAll elems + uptoBulkAll spare + 1
  | .agg parts => uptoBulkAll parts + 1
  | .iface _ d => uptoBulk d + 1
  | .map entries => uptoBulkEntries entries + 1
  | .held _ => 1
def uptoBulkAll {H : Type} : List (DataW H) → Nat
  | [] => 0
  | d :: r => uptoBulk d + uptoBulkAll r
def uptoBulkEntries {H : Type} : List (Lit × DataW H) → Nat
  | [] => 0
  | x :: r => uptoBulkEntry x + uptoBulkEntries r
def uptoBulkEntry {H : Type} : Lit × DataW H → Nat
  | (.string bytes, d) => bytes.length + uptoBulk d + 1
  | (_, d) => uptoBulk d + 1
 end
def uptoSmall : (H : Type) → List (DataW H) → Bool := fun _ ds => decide (uptoBulkAll ds ≤ 1048576)
def OpenSpec.upto (s : _root_.Go.ChangeSpec) : _root_.Go.OpenSpec := { _root_.Go.OpenSpec.ofChange s with cond := some uptoSmall }

/-- 'burgagelaw19.LatticePlaces', WHERE WHAT IT READS IS OF BULK AT MOST 1048576: true; the input reads as it did. -/
def latticePlacesUptoRow : OpenClaim := { program := "ytbpmcjndlbkkiaa", sum := "37269ec94a4c64b732f1e3e027fb7af87586ce1d5010c3b3eedeca0ef5208f21", func := "burgage/burgagelaw19.LatticePlaces", spec := "latticePlaces", inPlace := ["internal/abi.NoEscape", "internal/bytealg.MakeNoZero"], apart := false, narrowed := true }
def LatticePlacesUptoSaid : Prop := latticePlacesUptoRow.holds Try.pinned (OpenSpec.upto latticePlacesSpec)

/-- 'burgagelaw19.LatticeBack', WHERE WHAT IT READS IS OF BULK AT MOST 1048576: true; the input reads as it did. -/
def latticeBackUptoRow : OpenClaim := { program := "ytbpmcjndlbkkiaa", sum := "37269ec94a4c64b732f1e3e027fb7af87586ce1d5010c3b3eedeca0ef5208f21", func := "burgage/burgagelaw19.LatticeBack", spec := "latticeBack", inPlace := ["internal/abi.NoEscape", "internal/bytealg.MakeNoZero"], apart := false, narrowed := true }
def LatticeBackUptoSaid : Prop := latticeBackUptoRow.holds Try.pinned (OpenSpec.upto latticeBackSpec)

end Rows
end Go.Proofs.Ytbpmcjndlbkkiaa
