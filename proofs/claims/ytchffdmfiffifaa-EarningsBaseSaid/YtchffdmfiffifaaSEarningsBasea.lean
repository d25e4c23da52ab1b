/- The law EarningsBase returns true for every input, and its arguments read afterwards as before. No condition. -/
import Derived.Test.YtchffdmfiffifaaREarningsBase
import Derived.Test.YtchffdmfiffifaaA5
set_option linter.all false
set_option maxRecDepth 100000
namespace Go.Proofs.Ytchffdmfiffifaa
open Go.Ax Go.ChangeShapes Go.WideShapes Go.ChangeAt Go.RowKit
theorem law19_EarningsBase_b1 : (Rows.earningsBaseRow.inPlace == Try.prog.inPlace 7) = true := by kernel_rfl
theorem law19_EarningsBase_b2 : (Rows.earningsBaseRow.unfollowed == Try.prog.unfollowed 7) = true := by kernel_rfl
end Go.Proofs.Ytchffdmfiffifaa
