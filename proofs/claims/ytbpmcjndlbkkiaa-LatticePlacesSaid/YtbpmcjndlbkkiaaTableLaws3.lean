/- A law of package burgagelaw10 answers true, whatever its argument: TableRows. No condition. -/
import Derived.Test.YtbpmcjndlbkkiaaTablePure2
import Derived.Test.YtbpmcjndlbkkiaaArrEq
set_option linter.unusedVariables false
set_option linter.unusedSimpArgs false
namespace Go.Proofs.Ytbpmcjndlbkkiaa
open Go.RowKit
attribute [local go_sem ↓] zero_all zero_row

theorem eql_row (r s : Nat → Bool) (w : World) : (binOp .eql 25 (.agg (rowArr r)) (.agg (rowArr s))).run Try.prog w = .ok (.bool ((List.range 12).all fun k => r k == s k)) w :=
  run_eql_arr _ 4 12 (by kernel_rfl) _ _ w _ (by kernel_rfl) (by kernel_rfl) (fun i hi => run_equalIn_bool' _ 9998 4 _ _ (by kernel_rfl))

theorem levels_listR (n : Int) : levelsOf n = listR (bitAt n) := rfl
theorem listR_len (r : Nat → Bool) : (listR r).length ≤ 12 := by
  unfold listR
  rw [List.length_map]
  have := List.length_filter_le r (List.range 12)
  simpa using this
theorem take_snoc (l : List Int) (k : Nat) (h : k < l.length) : l.take (k + 1) = l.take k ++ [l.getD k 0] := by
  rw [List.take_add_one, List.getElem?_eq_getElem h, List.getD_eq_getElem?_getD, List.getElem?_eq_getElem h]; rfl
def impTo (l : List Int) (b k : Nat) : Bool := (l.take k).any fun a => impl a b
theorem impTo_succ (l : List Int) (b k : Nat) (h : k < l.length) : impTo l b (k + 1) = (impTo l b k || impl (l.getD k 0) b) := any_take_succ l _ k h
theorem impTo_all (l : List Int) (b : Nat) : impTo l b l.length = l.any fun a => impl a b := by unfold impTo; rw [List.take_length]

end Go.Proofs.Ytbpmcjndlbkkiaa
