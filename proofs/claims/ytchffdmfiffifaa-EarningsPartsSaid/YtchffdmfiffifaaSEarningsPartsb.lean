/- The law EarningsParts returns true for every input, and its arguments read afterwards as before. No condition. -/
import Derived.Test.YtchffdmfiffifaaSEarningsPartsa
set_option maxRecDepth 100000
namespace Go.Proofs.Ytchffdmfiffifaa
open Go.Ax Go.ChangeShapes Go.WideShapes Go.ChangeAt Go.RowKit
theorem law19_EarningsParts_b3 : (Rows.earningsPartsRow.recurses == Try.prog.recurses 3) = true := by kernel_rfl
theorem law19_EarningsParts_b4 : (Rows.earningsPartsRow.named == Try.prog.varsNamed 3) = true := by kernel_rfl
end Go.Proofs.Ytchffdmfiffifaa
