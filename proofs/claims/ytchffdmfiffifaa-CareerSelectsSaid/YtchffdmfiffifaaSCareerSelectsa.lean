/- The law CareerSelects returns true for every input, and its arguments read afterwards as before. No condition. -/
import Derived.Test.YtchffdmfiffifaaRCareerSelects
import Derived.Test.YtchffdmfiffifaaA5
set_option linter.all false
set_option maxRecDepth 100000
namespace Go.Proofs.Ytchffdmfiffifaa
open Go.Ax Go.ChangeShapes Go.WideShapes Go.ChangeAt Go.RowKit
theorem law13_CareerSelects_b1 : (Rows.careerSelectsRow.inPlace == Try.prog.inPlace 12) = true := by kernel_rfl
theorem law13_CareerSelects_b2 : (Rows.careerSelectsRow.unfollowed == Try.prog.unfollowed 12) = true := by kernel_rfl
end Go.Proofs.Ytchffdmfiffifaa
