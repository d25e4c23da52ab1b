/- The law EarningsBest returns true for every input, and its arguments read afterwards as before. No condition. -/
import Derived.Test.YtchffdmfiffifaaSEarningsBesta
set_option linter.all false
set_option maxRecDepth 100000
namespace Go.Proofs.Ytchffdmfiffifaa
open Go.Ax Go.ChangeShapes Go.WideShapes Go.ChangeAt Go.RowKit
theorem law19_EarningsBest_b3 : (Rows.earningsBestRow.recurses == Try.prog.recurses 10) = true := by kernel_rfl
theorem law19_EarningsBest_b4 : (Rows.earningsBestRow.named == Try.prog.varsNamed 10) = true := by kernel_rfl
end Go.Proofs.Ytchffdmfiffifaa
