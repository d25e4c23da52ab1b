/- The law CareerLife returns true for every input, and its arguments read afterwards as before. No condition. -/
import Derived.Test.YtchffdmfiffifaaRCareerLife
import Derived.Test.YtchffdmfiffifaaA5
set_option linter.all false
set_option maxRecDepth 100000
namespace Go.Proofs.Ytchffdmfiffifaa
open Go.Ax Go.ChangeShapes Go.WideShapes Go.ChangeAt Go.RowKit
theorem law13_CareerLife_b1 : (Rows.careerLifeRow.inPlace == Try.prog.inPlace 11) = true := by kernel_rfl
theorem law13_CareerLife_b2 : (Rows.careerLifeRow.unfollowed == Try.prog.unfollowed 11) = true := by kernel_rfl
end Go.Proofs.Ytchffdmfiffifaa
