/-
  NARROWER THAN 'FOR EVERY INPUT', by the rows' own cells (each row's printed sentence says how): WholeLeast: laid · LeastSees: laid · LeastMore: laid · PlaceTries: laid · PlaceBack: laid · AxiomHolds: laid · AxiomRows: laid · AxiomOdd: laid · MemoFuture: laid · MemoKeeps: laid · AxiomTells: laid · WholeImplied: laid.
  DERIVED. THE GIVEN ROWS OF THIS SEAT. 12 by the template 'for every input the law returns true; each argument reads behind the call as it read before'; 0 by the template 'total and deterministic' (their statements: YtlhfpnkfapghoaaDoorTotals.lean).
  GIVEN WITH THE SEED: the statements are not yours to turn. If you find one false, say at which input.
  Laid BY PROGRAM, IN A SANDBOX (cutbox-rows.mjs): the forced cells as the released guide's own fill.sh prints them over the translation 2aba4b7346f8d9bd… (all of the seat's roots in one cut). By AI agents, Wed Nov 11 2026. No macro, syntax, notation, axiom, sorry.
-/
import Derived.Test.YtlhfpnkfapghoaaDoorChecked
import GoSem.Claim
import GoSem.ClaimJoined
import GoSem.ClaimMapViews
import Derived.JoinedTies
import Derived.KernelRfl
namespace Go.Proofs.YtlhfpnkfapghoaaDoor
/- THE CELL 'sum', in the pinned program and in every row, IS THE sha256 OF THE DUMP (.gsa) THAT YtlhfpnkfapghoaaDoorProg.lean LOADS. Nothing in Lean hashes anything: it is a label: what it is worth is what the hold of that sum in a sandbox is worth. -/
noncomputable def Tryd.pinned : Pinned := { name := "ytlhfpnkfapghoaadoor", sum := "2aba4b7346f8d9bdc4e55ae82951eff6b5e02b35ea388cda0790e0a1bee30604", checked := Tryd.checked }
namespace Rows
def none {H : Type} : Left H := { results := [], args := [] }

/- WHAT THE LISTED PACKAGE-LEVEL VARIABLES READ AS WHEN THE CALL BEGINS. Each datum BY PROGRAM (the guide's laid-datum.mjs) off the statement by which the dump's own 'gosem.cut.vars' lays the variable. In a bare row this is a premise. The card (YtlhfpnkfapghoaaDoorCards.lean) ties it to the program's text. -/
def laid_math_bits_deBruijn64tab {H : Type} : DataW H := .agg [.lit (.int .u8 0), .lit (.int .u8 1), .lit (.int .u8 56), .lit (.int .u8 2), .lit (.int .u8 57), .lit (.int .u8 49), .lit (.int .u8 28), .lit (.int .u8 3), .lit (.int .u8 61), .lit (.int .u8 58), .lit (.int .u8 42), .lit (.int .u8 50), .lit (.int .u8 38), .lit (.int .u8 29), .lit (.int .u8 17), .lit (.int .u8 4), .lit (.int .u8 62), .lit (.int .u8 47), .lit (.int .u8 59), .lit (.int .u8 36), .lit (.int .u8 45), .lit (.int .u8 43), .lit (.int .u8 51), .lit (.int .u8 22), .lit (.int .u8 53), .lit (.int .u8 39), .lit (.int .u8 33), .lit (.int .u8 30), .lit (.int .u8 24), .lit (.int .u8 18), .lit (.int .u8 12), .lit (.int .u8 5), .lit (.int .u8 63), .lit (.int .u8 55), .lit (.int .u8 48), .lit (.int .u8 27), .lit (.int .u8 60), .lit (.int .u8 41), .lit (.int .u8 37), .lit (.int .u8 16), .lit (.int .u8 46), .lit (.int .u8 35), .lit (.int .u8 44), .lit (.int .u8 21), .lit (.int .u8 52), .lit (.int .u8 32), .lit (.int .u8 23), .lit (.int .u8 11), .lit (.int .u8 54), .lit (.int .u8 26), .lit (.int .u8 40), .lit (.int .u8 15), .lit (.int .u8 34), .lit (.int .u8 20), .lit (.int .u8 31), .lit (.int .u8 10), .lit (.int .u8 25), .lit (.int .u8 14), .lit (.int .u8 19), .lit (.int .u8 9), .lit (.int .u8 13), .lit (.int .u8 8), .lit (.int .u8 7), .lit (.int .u8 6)]

/-- 'burgagetop.WholeLeast': WHATEVER THE INPUT: true; the input reads as it did. -/
def wholeLeastSpec : ChangeSpec := { name := "wholeLeast", fn := fun _ => fun
  | [d1, d2] => { results := [.lit (.bool true)], args := [d1, d2] }
  | _ => none }
def wholeLeastRow : OpenClaim := { program := "ytlhfpnkfapghoaadoor", sum := "2aba4b7346f8d9bdc4e55ae82951eff6b5e02b35ea388cda0790e0a1bee30604", func := "burgage/burgagetop.WholeLeast", spec := "wholeLeast", unfollowed := true, recurses := true, named := ["math/bits.deBruijn64tab"], plainKeys := false, apart := false, laid := [("math/bits.deBruijn64tab", laid_math_bits_deBruijn64tab)] }
def WholeLeastSaid : Prop := wholeLeastRow.holds Tryd.pinned (OpenSpec.ofChange wholeLeastSpec)

/-- ITS FALSE NEIGHBOUR: 'it returns false'. Refute it at one input. -/
def wholeLeastWrong : ChangeSpec := { name := "wholeLeast", fn := fun _ => fun
  | [d1, d2] => { results := [.lit (.bool false)], args := [d1, d2] }
  | _ => none }
def WholeLeastWrongFalsely : Prop := wholeLeastRow.holds Tryd.pinned (OpenSpec.ofChange wholeLeastWrong)

/-- 'burgagelaw11.LeastSees': WHATEVER THE INPUT: true; the input reads as it did. -/
def leastSeesSpec : ChangeSpec := { name := "leastSees", fn := fun _ => fun
  | [d] => { results := [.lit (.bool true)], args := [d] }
  | _ => none }
def leastSeesRow : OpenClaim := { program := "ytlhfpnkfapghoaadoor", sum := "2aba4b7346f8d9bdc4e55ae82951eff6b5e02b35ea388cda0790e0a1bee30604", func := "burgage/burgagelaw11.LeastSees", spec := "leastSees", unfollowed := true, recurses := true, named := ["math/bits.deBruijn64tab"], plainKeys := false, apart := false, laid := [("math/bits.deBruijn64tab", laid_math_bits_deBruijn64tab)] }
def LeastSeesSaid : Prop := leastSeesRow.holds Tryd.pinned (OpenSpec.ofChange leastSeesSpec)

/-- ITS FALSE NEIGHBOUR: 'it returns false'. Refute it at one input. -/
def leastSeesWrong : ChangeSpec := { name := "leastSees", fn := fun _ => fun
  | [d] => { results := [.lit (.bool false)], args := [d] }
  | _ => none }
def LeastSeesWrongFalsely : Prop := leastSeesRow.holds Tryd.pinned (OpenSpec.ofChange leastSeesWrong)

/-- 'burgagelaw11.LeastMore': WHATEVER THE INPUT: true; the input reads as it did. -/
def leastMoreSpec : ChangeSpec := { name := "leastMore", fn := fun _ => fun
  | [d1, d2] => { results := [.lit (.bool true)], args := [d1, d2] }
  | _ => none }
def leastMoreRow : OpenClaim := { program := "ytlhfpnkfapghoaadoor", sum := "2aba4b7346f8d9bdc4e55ae82951eff6b5e02b35ea388cda0790e0a1bee30604", func := "burgage/burgagelaw11.LeastMore", spec := "leastMore", unfollowed := true, recurses := true, named := ["math/bits.deBruijn64tab"], plainKeys := false, apart := false, laid := [("math/bits.deBruijn64tab", laid_math_bits_deBruijn64tab)] }
def LeastMoreSaid : Prop := leastMoreRow.holds Tryd.pinned (OpenSpec.ofChange leastMoreSpec)

/-- ITS FALSE NEIGHBOUR: 'it returns false'. Refute it at one input. -/
def leastMoreWrong : ChangeSpec := { name := "leastMore", fn := fun _ => fun
  | [d1, d2] => { results := [.lit (.bool false)], args := [d1, d2] }
  | _ => none }
def LeastMoreWrongFalsely : Prop := leastMoreRow.holds Tryd.pinned (OpenSpec.ofChange leastMoreWrong)

/-- 'burgagelaw14.PlaceTries': WHATEVER THE INPUT: true; the input reads as it did. -/
def placeTriesSpec : ChangeSpec := { name := "placeTries", fn := fun _ => fun
  | [d1, d2] => { results := [.lit (.bool true)], args := [d1, d2] }
  | _ => none }
def placeTriesRow : OpenClaim := { program := "ytlhfpnkfapghoaadoor", sum := "2aba4b7346f8d9bdc4e55ae82951eff6b5e02b35ea388cda0790e0a1bee30604", func := "burgage/burgagelaw14.PlaceTries", spec := "placeTries", unfollowed := true, recurses := true, named := ["math/bits.deBruijn64tab"], plainKeys := false, apart := false, laid := [("math/bits.deBruijn64tab", laid_math_bits_deBruijn64tab)] }
def PlaceTriesSaid : Prop := placeTriesRow.holds Tryd.pinned (OpenSpec.ofChange placeTriesSpec)

/-- ITS FALSE NEIGHBOUR: 'it returns false'. Refute it at one input. -/
def placeTriesWrong : ChangeSpec := { name := "placeTries", fn := fun _ => fun
  | [d1, d2] => { results := [.lit (.bool false)], args := [d1, d2] }
  | _ => none }
def PlaceTriesWrongFalsely : Prop := placeTriesRow.holds Tryd.pinned (OpenSpec.ofChange placeTriesWrong)

/-- 'burgagelaw14.PlaceBack': WHATEVER THE INPUT: true; the input reads as it did. -/
def placeBackSpec : ChangeSpec := { name := "placeBack", fn := fun _ => fun
  | [d] => { results := [.lit (.bool true)], args := [d] }
  | _ => none }
def placeBackRow : OpenClaim := { program := "ytlhfpnkfapghoaadoor", sum := "2aba4b7346f8d9bdc4e55ae82951eff6b5e02b35ea388cda0790e0a1bee30604", func := "burgage/burgagelaw14.PlaceBack", spec := "placeBack", unfollowed := true, recurses := true, named := ["math/bits.deBruijn64tab"], plainKeys := false, apart := false, laid := [("math/bits.deBruijn64tab", laid_math_bits_deBruijn64tab)] }
def PlaceBackSaid : Prop := placeBackRow.holds Tryd.pinned (OpenSpec.ofChange placeBackSpec)

/-- ITS FALSE NEIGHBOUR: 'it returns false'. Refute it at one input. -/
def placeBackWrong : ChangeSpec := { name := "placeBack", fn := fun _ => fun
  | [d] => { results := [.lit (.bool false)], args := [d] }
  | _ => none }
def PlaceBackWrongFalsely : Prop := placeBackRow.holds Tryd.pinned (OpenSpec.ofChange placeBackWrong)

/-- 'burgagelaw12.AxiomHolds': WHATEVER THE INPUT: true; the input reads as it did. -/
def axiomHoldsSpec : ChangeSpec := { name := "axiomHolds", fn := fun _ => fun
  | [d] => { results := [.lit (.bool true)], args := [d] }
  | _ => none }
def axiomHoldsRow : OpenClaim := { program := "ytlhfpnkfapghoaadoor", sum := "2aba4b7346f8d9bdc4e55ae82951eff6b5e02b35ea388cda0790e0a1bee30604", func := "burgage/burgagelaw12.AxiomHolds", spec := "axiomHolds", unfollowed := true, recurses := true, named := ["math/bits.deBruijn64tab"], plainKeys := false, apart := false, laid := [("math/bits.deBruijn64tab", laid_math_bits_deBruijn64tab)] }
def AxiomHoldsSaid : Prop := axiomHoldsRow.holds Tryd.pinned (OpenSpec.ofChange axiomHoldsSpec)

/-- ITS FALSE NEIGHBOUR: 'it returns false'. Refute it at one input. -/
def axiomHoldsWrong : ChangeSpec := { name := "axiomHolds", fn := fun _ => fun
  | [d] => { results := [.lit (.bool false)], args := [d] }
  | _ => none }
def AxiomHoldsWrongFalsely : Prop := axiomHoldsRow.holds Tryd.pinned (OpenSpec.ofChange axiomHoldsWrong)

/-- 'burgagelaw12.AxiomRows': WHATEVER THE INPUT: true; the input reads as it did. -/
def axiomRowsSpec : ChangeSpec := { name := "axiomRows", fn := fun _ => fun
  | [d1, d2] => { results := [.lit (.bool true)], args := [d1, d2] }
  | _ => none }
def axiomRowsRow : OpenClaim := { program := "ytlhfpnkfapghoaadoor", sum := "2aba4b7346f8d9bdc4e55ae82951eff6b5e02b35ea388cda0790e0a1bee30604", func := "burgage/burgagelaw12.AxiomRows", spec := "axiomRows", unfollowed := true, recurses := true, named := ["math/bits.deBruijn64tab"], plainKeys := false, apart := false, laid := [("math/bits.deBruijn64tab", laid_math_bits_deBruijn64tab)] }
def AxiomRowsSaid : Prop := axiomRowsRow.holds Tryd.pinned (OpenSpec.ofChange axiomRowsSpec)

/-- ITS FALSE NEIGHBOUR: 'it returns false'. Refute it at one input. -/
def axiomRowsWrong : ChangeSpec := { name := "axiomRows", fn := fun _ => fun
  | [d1, d2] => { results := [.lit (.bool false)], args := [d1, d2] }
  | _ => none }
def AxiomRowsWrongFalsely : Prop := axiomRowsRow.holds Tryd.pinned (OpenSpec.ofChange axiomRowsWrong)

/-- 'burgagelaw12.AxiomOdd': WHATEVER THE INPUT: true; the input reads as it did. -/
def axiomOddSpec : ChangeSpec := { name := "axiomOdd", fn := fun _ => fun
  | [d1, d2, d3] => { results := [.lit (.bool true)], args := [d1, d2, d3] }
  | _ => none }
def axiomOddRow : OpenClaim := { program := "ytlhfpnkfapghoaadoor", sum := "2aba4b7346f8d9bdc4e55ae82951eff6b5e02b35ea388cda0790e0a1bee30604", func := "burgage/burgagelaw12.AxiomOdd", spec := "axiomOdd", unfollowed := true, recurses := true, named := ["math/bits.deBruijn64tab"], plainKeys := false, apart := false, laid := [("math/bits.deBruijn64tab", laid_math_bits_deBruijn64tab)] }
def AxiomOddSaid : Prop := axiomOddRow.holds Tryd.pinned (OpenSpec.ofChange axiomOddSpec)

/-- ITS FALSE NEIGHBOUR: 'it returns false'. Refute it at one input. -/
def axiomOddWrong : ChangeSpec := { name := "axiomOdd", fn := fun _ => fun
  | [d1, d2, d3] => { results := [.lit (.bool false)], args := [d1, d2, d3] }
  | _ => none }
def AxiomOddWrongFalsely : Prop := axiomOddRow.holds Tryd.pinned (OpenSpec.ofChange axiomOddWrong)

/-- 'burgagelaw15.MemoFuture': WHATEVER THE INPUT: true; the input reads as it did. -/
def memoFutureSpec : ChangeSpec := { name := "memoFuture", fn := fun _ => fun
  | [d] => { results := [.lit (.bool true)], args := [d] }
  | _ => none }
def memoFutureRow : OpenClaim := { program := "ytlhfpnkfapghoaadoor", sum := "2aba4b7346f8d9bdc4e55ae82951eff6b5e02b35ea388cda0790e0a1bee30604", func := "burgage/burgagelaw15.MemoFuture", spec := "memoFuture", unfollowed := true, recurses := true, named := ["math/bits.deBruijn64tab"], plainKeys := false, apart := false, laid := [("math/bits.deBruijn64tab", laid_math_bits_deBruijn64tab)] }
def MemoFutureSaid : Prop := memoFutureRow.holds Tryd.pinned (OpenSpec.ofChange memoFutureSpec)

/-- ITS FALSE NEIGHBOUR: 'it returns false'. Refute it at one input. -/
def memoFutureWrong : ChangeSpec := { name := "memoFuture", fn := fun _ => fun
  | [d] => { results := [.lit (.bool false)], args := [d] }
  | _ => none }
def MemoFutureWrongFalsely : Prop := memoFutureRow.holds Tryd.pinned (OpenSpec.ofChange memoFutureWrong)

/-- 'burgagelaw15.MemoKeeps': WHATEVER THE INPUT: true; the input reads as it did. -/
def memoKeepsSpec : ChangeSpec := { name := "memoKeeps", fn := fun _ => fun
  | [d1, d2] => { results := [.lit (.bool true)], args := [d1, d2] }
  | _ => none }
def memoKeepsRow : OpenClaim := { program := "ytlhfpnkfapghoaadoor", sum := "2aba4b7346f8d9bdc4e55ae82951eff6b5e02b35ea388cda0790e0a1bee30604", func := "burgage/burgagelaw15.MemoKeeps", spec := "memoKeeps", unfollowed := true, recurses := true, named := ["math/bits.deBruijn64tab"], plainKeys := false, apart := false, laid := [("math/bits.deBruijn64tab", laid_math_bits_deBruijn64tab)] }
def MemoKeepsSaid : Prop := memoKeepsRow.holds Tryd.pinned (OpenSpec.ofChange memoKeepsSpec)

/-- ITS FALSE NEIGHBOUR: 'it returns false'. Refute it at one input. -/
def memoKeepsWrong : ChangeSpec := { name := "memoKeeps", fn := fun _ => fun
  | [d1, d2] => { results := [.lit (.bool false)], args := [d1, d2] }
  | _ => none }
def MemoKeepsWrongFalsely : Prop := memoKeepsRow.holds Tryd.pinned (OpenSpec.ofChange memoKeepsWrong)

/-- 'burgagelaw12.AxiomTells': WHATEVER THE INPUT: true; the input reads as it did. -/
def axiomTellsSpec : ChangeSpec := { name := "axiomTells", fn := fun _ => fun
  | [d1, d2] => { results := [.lit (.bool true)], args := [d1, d2] }
  | _ => none }
def axiomTellsRow : OpenClaim := { program := "ytlhfpnkfapghoaadoor", sum := "2aba4b7346f8d9bdc4e55ae82951eff6b5e02b35ea388cda0790e0a1bee30604", func := "burgage/burgagelaw12.AxiomTells", spec := "axiomTells", unfollowed := true, recurses := true, named := ["math/bits.deBruijn64tab"], plainKeys := false, apart := false, laid := [("math/bits.deBruijn64tab", laid_math_bits_deBruijn64tab)] }
def AxiomTellsSaid : Prop := axiomTellsRow.holds Tryd.pinned (OpenSpec.ofChange axiomTellsSpec)

/-- ITS FALSE NEIGHBOUR: 'it returns false'. Refute it at one input. -/
def axiomTellsWrong : ChangeSpec := { name := "axiomTells", fn := fun _ => fun
  | [d1, d2] => { results := [.lit (.bool false)], args := [d1, d2] }
  | _ => none }
def AxiomTellsWrongFalsely : Prop := axiomTellsRow.holds Tryd.pinned (OpenSpec.ofChange axiomTellsWrong)

/-- 'burgagetop.WholeImplied': WHATEVER THE INPUT: true; the input reads as it did. -/
def wholeImpliedSpec : ChangeSpec := { name := "wholeImplied", fn := fun _ => fun
  | [d1, d2] => { results := [.lit (.bool true)], args := [d1, d2] }
  | _ => none }
def wholeImpliedRow : OpenClaim := { program := "ytlhfpnkfapghoaadoor", sum := "2aba4b7346f8d9bdc4e55ae82951eff6b5e02b35ea388cda0790e0a1bee30604", func := "burgage/burgagetop.WholeImplied", spec := "wholeImplied", unfollowed := true, recurses := true, named := ["math/bits.deBruijn64tab"], plainKeys := false, apart := false, laid := [("math/bits.deBruijn64tab", laid_math_bits_deBruijn64tab)] }
def WholeImpliedSaid : Prop := wholeImpliedRow.holds Tryd.pinned (OpenSpec.ofChange wholeImpliedSpec)

/-- ITS FALSE NEIGHBOUR: 'it returns false'. Refute it at one input. -/
def wholeImpliedWrong : ChangeSpec := { name := "wholeImplied", fn := fun _ => fun
  | [d1, d2] => { results := [.lit (.bool false)], args := [d1, d2] }
  | _ => none }
def WholeImpliedWrongFalsely : Prop := wholeImpliedRow.holds Tryd.pinned (OpenSpec.ofChange wholeImpliedWrong)

/- THE SECOND FORM. 'bulk': how many values and letters a reading holds, each counted each time it is reached (what is shared counts as often as it is met; a slice's spare places count too). A statement '..UptoSaid' is the law's where the arguments, and the package variables that the reading takes, are together of bulk at most 1048576: NARROWER than '..Said'. Prove '..Said' where nothing that the law and all that it calls make is longer than what came in: it says more and counts as full. Else prove '..UptoSaid'. A law counts once. -/
mutual
def uptoBulk {H : Type} : DataW H → Nat
  | .lit (.string bytes) => bytes.length + 1
  | .lit _ => 1
  | .nil => 1
  | .ptr d => uptoBulk d + 1
  | .slice elems spare => uptoBulkAll elems + uptoBulkAll spare + 1
  | .agg parts => uptoBulkAll parts + 1
  | .iface _ d => uptoBulk d + 1
  | .map entries => uptoBulkEntries entries + 1
  | .held _ => 1
def uptoBulkAll {H : Type} : List (DataW H) → Nat
  | [] => 0
  | d :: r => uptoBulk d + uptoBulkAll r
def uptoBulkEntries {H : Type} : List (Lit × DataW H) → Nat
  | [] => 0
  | x :: r => uptoBulkEntry x + uptoBulkEntries r
def uptoBulkEntry {H : Type} : Lit × DataW H → Nat
  | (.string bytes, d) => bytes.length + uptoBulk d + 1
  | (_, d) => uptoBulk d + 1
 end
def uptoSmall : (H : Type) → List (DataW H) → Bool := fun _ ds => decide (uptoBulkAll ds ≤ 1048576)
def OpenSpec.upto (s : _root_.Go.ChangeSpec) : _root_.Go.OpenSpec := { _root_.Go.OpenSpec.ofChange s with cond := some uptoSmall }

/-- 'burgagetop.WholeLeast', WHERE WHAT IT READS IS OF BULK AT MOST 1048576: true; the input reads as it did. -/
def wholeLeastUptoRow : OpenClaim := { program := "ytlhfpnkfapghoaadoor", sum := "2aba4b7346f8d9bdc4e55ae82951eff6b5e02b35ea388cda0790e0a1bee30604", func := "burgage/burgagetop.WholeLeast", spec := "wholeLeast", unfollowed := true, recurses := true, named := ["math/bits.deBruijn64tab"], plainKeys := false, apart := false, laid := [("math/bits.deBruijn64tab", laid_math_bits_deBruijn64tab)], narrowed := true }
def WholeLeastUptoSaid : Prop := wholeLeastUptoRow.holds Tryd.pinned (OpenSpec.upto wholeLeastSpec)

/-- 'burgagelaw11.LeastSees', WHERE WHAT IT READS IS OF BULK AT MOST 1048576: true; the input reads as it did. -/
def leastSeesUptoRow : OpenClaim := { program := "ytlhfpnkfapghoaadoor", sum := "2aba4b7346f8d9bdc4e55ae82951eff6b5e02b35ea388cda0790e0a1bee30604", func := "burgage/burgagelaw11.LeastSees", spec := "leastSees", unfollowed := true, recurses := true, named := ["math/bits.deBruijn64tab"], plainKeys := false, apart := false, laid := [("math/bits.deBruijn64tab", laid_math_bits_deBruijn64tab)], narrowed := true }
def LeastSeesUptoSaid : Prop := leastSeesUptoRow.holds Tryd.pinned (OpenSpec.upto leastSeesSpec)

/-- 'burgagelaw11.LeastMore', WHERE WHAT IT READS IS OF BULK AT MOST 1048576: true; the input reads as it did. -/
def leastMoreUptoRow : OpenClaim := { program := "ytlhfpnkfapghoaadoor", sum := "2aba4b7346f8d9bdc4e55ae82951eff6b5e02b35ea388cda0790e0a1bee30604", func := "burgage/burgagelaw11.LeastMore", spec := "leastMore", unfollowed := true, recurses := true, named := ["math/bits.deBruijn64tab"], plainKeys := false, apart := false, laid := [("math/bits.deBruijn64tab", laid_math_bits_deBruijn64tab)], narrowed := true }
def LeastMoreUptoSaid : Prop := leastMoreUptoRow.holds Tryd.pinned (OpenSpec.upto leastMoreSpec)

/-- 'burgagelaw14.PlaceTries', WHERE WHAT IT READS IS OF BULK AT MOST 1048576: true; the input reads as it did. -/
def placeTriesUptoRow : OpenClaim := { program := "ytlhfpnkfapghoaadoor", sum := "2aba4b7346f8d9bdc4e55ae82951eff6b5e02b35ea388cda0790e0a1bee30604", func := "burgage/burgagelaw14.PlaceTries", spec := "placeTries", unfollowed := true, recurses := true, named := ["math/bits.deBruijn64tab"], plainKeys := false, apart := false, laid := [("math/bits.deBruijn64tab", laid_math_bits_deBruijn64tab)], narrowed := true }
def PlaceTriesUptoSaid : Prop := placeTriesUptoRow.holds Tryd.pinned (OpenSpec.upto placeTriesSpec)

/-- 'burgagelaw14.PlaceBack', WHERE WHAT IT READS IS OF BULK AT MOST 1048576: true; the input reads as it did. -/
def placeBackUptoRow : OpenClaim := { program := "ytlhfpnkfapghoaadoor", sum := "2aba4b7346f8d9bdc4e55ae82951eff6b5e02b35ea388cda0790e0a1bee30604", func := "burgage/burgagelaw14.PlaceBack", spec := "placeBack", unfollowed := true, recurses := true, named := ["math/bits.deBruijn64tab"], plainKeys := false, apart := false, laid := [("math/bits.deBruijn64tab", laid_math_bits_deBruijn64tab)], narrowed := true }
def PlaceBackUptoSaid : Prop := placeBackUptoRow.holds Tryd.pinned (OpenSpec.upto placeBackSpec)

/-- 'burgagelaw12.AxiomHolds', WHERE WHAT IT READS IS OF BULK AT MOST 1048576: true; the input reads as it did. -/
def axiomHoldsUptoRow : OpenClaim := { program := "ytlhfpnkfapghoaadoor", sum := "2aba4b7346f8d9bdc4e55ae82951eff6b5e02b35ea388cda0790e0a1bee30604", func := "burgage/burgagelaw12.AxiomHolds", spec := "axiomHolds", unfollowed := true, recurses := true, named := ["math/bits.deBruijn64tab"], plainKeys := false, apart := false, laid := [("math/bits.deBruijn64tab", laid_math_bits_deBruijn64tab)], narrowed := true }
def AxiomHoldsUptoSaid : Prop := axiomHoldsUptoRow.holds Tryd.pinned (OpenSpec.upto axiomHoldsSpec)

/-- 'burgagelaw12.AxiomRows', WHERE WHAT IT READS IS OF BULK AT MOST 1048576: true; the input reads as it did. -/
def axiomRowsUptoRow : OpenClaim := { program := "ytlhfpnkfapghoaadoor", sum := "2aba4b7346f8d9bdc4e55ae82951eff6b5e02b35ea388cda0790e0a1bee30604", func := "burgage/burgagelaw12.AxiomRows", spec := "axiomRows", unfollowed := true, recurses := true, named := ["math/bits.deBruijn64tab"], plainKeys := false, apart := false, laid := [("math/bits.deBruijn64tab", laid_math_bits_deBruijn64tab)], narrowed := true }
def AxiomRowsUptoSaid : Prop := axiomRowsUptoRow.holds Tryd.pinned (OpenSpec.upto axiomRowsSpec)

/-- 'burgagelaw12.AxiomOdd', WHERE WHAT IT READS IS OF BULK AT MOST 1048576: true; the input reads as it did. -/
def axiomOddUptoRow : OpenClaim := { program := "ytlhfpnkfapghoaadoor", sum := "2aba4b7346f8d9bdc4e55ae82951eff6b5e02b35ea388cda0790e0a1bee30604", func := "burgage/burgagelaw12.AxiomOdd", spec := "axiomOdd", unfollowed := true, recurses := true, named := ["math/bits.deBruijn64tab"], plainKeys := false, apart := false, laid := [("math/bits.deBruijn64tab", laid_math_bits_deBruijn64tab)], narrowed := true }
def AxiomOddUptoSaid : Prop := axiomOddUptoRow.holds Tryd.pinned (OpenSpec.upto axiomOddSpec)

/-- 'burgagelaw15.MemoFuture', WHERE WHAT IT READS IS OF BULK AT MOST 1048576: true; the input reads as it did. -/
def memoFutureUptoRow : OpenClaim := { program := "ytlhfpnkfapghoaadoor", sum := "2aba4b7346f8d9bdc4e55ae82951eff6b5e02b35ea388cda0790e0a1bee30604", func := "burgage/burgagelaw15.MemoFuture", spec := "memoFuture", unfollowed := true, recurses := true, named := ["math/bits.deBruijn64tab"], plainKeys := false, apart := false, laid := [("math/bits.deBruijn64tab", laid_math_bits_deBruijn64tab)], narrowed := true }
def MemoFutureUptoSaid : Prop := memoFutureUptoRow.holds Tryd.pinned (OpenSpec.upto memoFutureSpec)

/-- 'burgagelaw15.MemoKeeps', WHERE WHAT IT READS IS OF BULK AT MOST 1048576: true; the input reads as it did. -/
def memoKeepsUptoRow : OpenClaim := { program := "ytlhfpnkfapghoaadoor", sum := "2aba4b7346f8d9bdc4e55ae82951eff6b5e02b35ea388cda0790e0a1bee30604", func := "burgage/burgagelaw15.MemoKeeps", spec := "memoKeeps", unfollowed := true, recurses := true, named := ["math/bits.deBruijn64tab"], plainKeys := false, apart := false, laid := [("math/bits.deBruijn64tab", laid_math_bits_deBruijn64tab)], narrowed := true }
def MemoKeepsUptoSaid : Prop := memoKeepsUptoRow.holds Tryd.pinned (OpenSpec.upto memoKeepsSpec)

/-- 'burgagelaw12.AxiomTells', WHERE WHAT IT READS IS OF BULK AT MOST 1048576: true; the input reads as it did. -/
def axiomTellsUptoRow : OpenClaim := { program := "ytlhfpnkfapghoaadoor", sum := "2aba4b7346f8d9bdc4e55ae82951eff6b5e02b35ea388cda0790e0a1bee30604", func := "burgage/burgagelaw12.AxiomTells", spec := "axiomTells", unfollowed := true, recurses := true, named := ["math/bits.deBruijn64tab"], plainKeys := false, apart := false, laid := [("math/bits.deBruijn64tab", laid_math_bits_deBruijn64tab)], narrowed := true }
def AxiomTellsUptoSaid : Prop := axiomTellsUptoRow.holds Tryd.pinned (OpenSpec.upto axiomTellsSpec)

/-- 'burgagetop.WholeImplied', WHERE WHAT IT READS IS OF BULK AT MOST 1048576: true; the input reads as it did. -/
def wholeImpliedUptoRow : OpenClaim := { program := "ytlhfpnkfapghoaadoor", sum := "2aba4b7346f8d9bdc4e55ae82951eff6b5e02b35ea388cda0790e0a1bee30604", func := "burgage/burgagetop.WholeImplied", spec := "wholeImplied", unfollowed := true, recurses := true, named := ["math/bits.deBruijn64tab"], plainKeys := false, apart := false, laid := [("math/bits.deBruijn64tab", laid_math_bits_deBruijn64tab)], narrowed := true }
def WholeImpliedUptoSaid : Prop := wholeImpliedUptoRow.holds Tryd.pinned (OpenSpec.upto wholeImpliedSpec)

end Rows
end Go.Proofs.YtlhfpnkfapghoaaDoor
