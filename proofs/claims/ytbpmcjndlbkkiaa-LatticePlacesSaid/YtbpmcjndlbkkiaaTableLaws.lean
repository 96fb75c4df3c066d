/- Laws of package burgagelaw10 answer true, whatever their arguments. No condition. -/
import Derived.Test.YtbpmcjndlbkkiaaTable2
set_option linter.unusedVariables false
set_option linter.unusedSimpArgs false
namespace Go.Proofs.Ytbpmcjndlbkkiaa
open Go.RowKit
attribute [local go_sem ↓] zero_all zero_row

theorem index_row (r : Nat → Bool) (k : Nat) (hk : k < 12) (w : World) : (Instr.index 25 (.agg (rowArr r)) (.int .i64 k)).run Try.prog w = .ok (.bool (r k)) w :=
  run_index_one (e := 4) (len := 12) (by kernel_rfl) w (by kernel_rfl) (by kernel_rfl) _ _ _ _ (by omega) (by omega) (arrOf_get _ _ _ hk)
/-- How many of the first k are so. -/
def cnt (r : Nat → Bool) (k : Nat) : Nat := ((List.range k).filter r).length
theorem cnt_succ (r : Nat → Bool) (k : Nat) : cnt r (k + 1) = cnt r k + if r k then 1 else 0 := by
  unfold cnt
  rw [List.range_succ, List.filter_append, List.length_append]
  cases h : r k <;> simp [h]
theorem cnt_le (r : Nat → Bool) (k : Nat) : cnt r k ≤ k := by
  have := List.length_filter_le r (List.range k)
  unfold cnt
  simpa using this

end Go.Proofs.Ytbpmcjndlbkkiaa
