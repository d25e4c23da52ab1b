/- The law EarningsParts returns true for every input, and its arguments read afterwards as before. No condition. -/
import Derived.Test.YtchffdmfiffifaaREarningsParts
import Derived.Test.YtchffdmfiffifaaAx23
set_option maxRecDepth 100000
namespace Go.Proofs.Ytchffdmfiffifaa
open Go.Ax Go.ChangeShapes Go.WideShapes Go.ChangeAt Go.RowKit
theorem law19_EarningsParts_b1 : (Rows.earningsPartsRow.inPlace == Try.prog.inPlace 3) = true := by kernel_rfl
theorem law19_EarningsParts_b2 : (Rows.earningsPartsRow.unfollowed == Try.prog.unfollowed 3) = true := by kernel_rfl
end Go.Proofs.Ytchffdmfiffifaa
