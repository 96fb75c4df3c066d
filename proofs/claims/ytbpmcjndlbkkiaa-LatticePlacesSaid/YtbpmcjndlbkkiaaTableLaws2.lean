/- A law of package burgagelaw10 answers true, whatever its arguments: TableImplies. No condition. -/
import Derived.Test.YtbpmcjndlbkkiaaTableLaws
import Derived.Test.YtbpmcjndlbkkiaaRef10
set_option linter.unusedVariables false
set_option linter.unusedSimpArgs false
namespace Go.Proofs.Ytbpmcjndlbkkiaa
open Go.RowKit

theorem index_all (n : Nat) (hn : n < 12) (w : World) : (Instr.index 46 (.agg allArr) (.int .i64 n)).run Try.prog w = .ok (.agg (rowArr fun k => impl n k)) w := by
  rw [run_index_agg (e := 25) (len := 12) (s := 12) (by kernel_rfl) w (by kernel_rfl) (by kernel_rfl) _ _ _ (by omega) (by omega)]
  congr 2
  rw [show ((n : Int).toNat) = n from by omega]
  unfold allArr
  rw [arrOf_extract _ _ _ _ (by omega)]
  exact arrOf_ext fun k hk => by rw [allF_at n k hk]

end Go.Proofs.Ytbpmcjndlbkkiaa
