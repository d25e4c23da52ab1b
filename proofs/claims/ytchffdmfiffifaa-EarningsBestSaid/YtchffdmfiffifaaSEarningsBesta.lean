/- The law EarningsBest returns true for every input, and its arguments read afterwards as before. No condition. -/
import Derived.Test.YtchffdmfiffifaaREarningsBest
import Derived.Test.YtchffdmfiffifaaA5
set_option linter.all false
set_option maxRecDepth 100000
namespace Go.Proofs.Ytchffdmfiffifaa
open Go.Ax Go.ChangeShapes Go.WideShapes Go.ChangeAt Go.RowKit
theorem law19_EarningsBest_b1 : (Rows.earningsBestRow.inPlace == Try.prog.inPlace 10) = true := by kernel_rfl
theorem law19_EarningsBest_b2 : (Rows.earningsBestRow.unfollowed == Try.prog.unfollowed 10) = true := by kernel_rfl
end Go.Proofs.Ytchffdmfiffifaa
