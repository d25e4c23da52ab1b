/- The law EarningsSplit returns true for every input, and its arguments read afterwards as before. No condition. -/
import Derived.Test.YtchffdmfiffifaaREarningsSplit
import Derived.Test.YtchffdmfiffifaaAx23
set_option maxRecDepth 100000
namespace Go.Proofs.Ytchffdmfiffifaa
open Go.Ax Go.ChangeShapes Go.WideShapes Go.ChangeAt Go.RowKit
theorem law19_EarningsSplit_b1 : (Rows.earningsSplitRow.inPlace == Try.prog.inPlace 4) = true := by kernel_rfl
theorem law19_EarningsSplit_b2 : (Rows.earningsSplitRow.unfollowed == Try.prog.unfollowed 4) = true := by kernel_rfl
end Go.Proofs.Ytchffdmfiffifaa
