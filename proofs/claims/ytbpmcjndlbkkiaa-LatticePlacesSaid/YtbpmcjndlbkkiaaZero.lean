/- The zero values of the program's array types, as functions of the index. No condition. -/
import Derived.Test.YtbpmcjndlbkkiaaArr
set_option linter.unusedVariables false
set_option linter.unusedSimpArgs false
namespace Go.Proofs.Ytbpmcjndlbkkiaa
theorem zero_all (w : World) : (zeroValue 46).run Try.prog w = .ok (.agg (arrOf 144 fun _ => .bool false)) w := by kernel_rfl
theorem zero_row (w : World) : (zeroValue 25).run Try.prog w = .ok (.agg (arrOf 12 fun _ => .bool false)) w := by kernel_rfl
end Go.Proofs.Ytbpmcjndlbkkiaa
