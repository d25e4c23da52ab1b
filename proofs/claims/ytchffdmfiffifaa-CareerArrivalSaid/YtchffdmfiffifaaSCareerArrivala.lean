/- The law CareerArrival returns true for every input, and its arguments read afterwards as before. No condition. -/
import Derived.Test.YtchffdmfiffifaaRCareerArrival
import Derived.Test.YtchffdmfiffifaaA5
set_option linter.all false
set_option maxRecDepth 100000
namespace Go.Proofs.Ytchffdmfiffifaa
open Go.Ax Go.ChangeShapes Go.WideShapes Go.ChangeAt Go.RowKit
theorem law13_CareerArrival_b1 : (Rows.careerArrivalRow.inPlace == Try.prog.inPlace 6) = true := by kernel_rfl
theorem law13_CareerArrival_b2 : (Rows.careerArrivalRow.unfollowed == Try.prog.unfollowed 6) = true := by kernel_rfl
end Go.Proofs.Ytchffdmfiffifaa
