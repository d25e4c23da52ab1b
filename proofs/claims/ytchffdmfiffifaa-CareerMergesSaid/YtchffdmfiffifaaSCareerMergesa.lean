/- The law CareerMerges returns true for every input, and its arguments read afterwards as before. No condition. -/
import Derived.Test.YtchffdmfiffifaaRCareerMerges
import Derived.Test.YtchffdmfiffifaaAx23
set_option maxRecDepth 100000
namespace Go.Proofs.Ytchffdmfiffifaa
open Go.Ax Go.ChangeShapes Go.WideShapes Go.ChangeAt Go.RowKit
theorem law13_CareerMerges_b1 : (Rows.careerMergesRow.inPlace == Try.prog.inPlace 8) = true := by kernel_rfl
theorem law13_CareerMerges_b2 : (Rows.careerMergesRow.unfollowed == Try.prog.unfollowed 8) = true := by kernel_rfl
end Go.Proofs.Ytchffdmfiffifaa
