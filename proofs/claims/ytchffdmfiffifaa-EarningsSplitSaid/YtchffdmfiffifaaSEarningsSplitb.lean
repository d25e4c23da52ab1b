/- The law EarningsSplit returns true for every input, and its arguments read afterwards as before. No condition. -/
import Derived.Test.YtchffdmfiffifaaSEarningsSplita
set_option maxRecDepth 100000
namespace Go.Proofs.Ytchffdmfiffifaa
open Go.Ax Go.ChangeShapes Go.WideShapes Go.ChangeAt Go.RowKit
theorem law19_EarningsSplit_b3 : (Rows.earningsSplitRow.recurses == Try.prog.recurses 4) = true := by kernel_rfl
theorem law19_EarningsSplit_b4 : (Rows.earningsSplitRow.named == Try.prog.varsNamed 4) = true := by kernel_rfl
end Go.Proofs.Ytchffdmfiffifaa
