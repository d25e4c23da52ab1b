/- The law CareerMoves returns true for every input, and its arguments read afterwards as before. No condition. -/
import Derived.Test.YtchffdmfiffifaaRCareerMoves
import Derived.Test.YtchffdmfiffifaaA5
set_option linter.all false
set_option maxRecDepth 100000
namespace Go.Proofs.Ytchffdmfiffifaa
open Go.Ax Go.ChangeShapes Go.WideShapes Go.ChangeAt Go.RowKit
theorem law13_CareerMoves_b1 : (Rows.careerMovesRow.inPlace == Try.prog.inPlace 9) = true := by kernel_rfl
theorem law13_CareerMoves_b2 : (Rows.careerMovesRow.unfollowed == Try.prog.unfollowed 9) = true := by kernel_rfl
end Go.Proofs.Ytchffdmfiffifaa
