/- The law EarningsBase returns true for every input, and its arguments read afterwards as before. No condition. -/
import Derived.Test.YtchffdmfiffifaaSEarningsBasea
set_option linter.all false
set_option maxRecDepth 100000
namespace Go.Proofs.Ytchffdmfiffifaa
open Go.Ax Go.ChangeShapes Go.WideShapes Go.ChangeAt Go.RowKit
theorem law19_EarningsBase_b3 : (Rows.earningsBaseRow.recurses == Try.prog.recurses 7) = true := by kernel_rfl
theorem law19_EarningsBase_b4 : (Rows.earningsBaseRow.named == Try.prog.varsNamed 7) = true := by kernel_rfl
end Go.Proofs.Ytchffdmfiffifaa
