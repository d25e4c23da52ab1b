/- The law CareerMoves returns true for every input, and its arguments read afterwards as before. No condition. -/
import Derived.Test.YtchffdmfiffifaaSCareerMovesa
set_option linter.all false
set_option maxRecDepth 100000
namespace Go.Proofs.Ytchffdmfiffifaa
open Go.Ax Go.ChangeShapes Go.WideShapes Go.ChangeAt Go.RowKit
theorem law13_CareerMoves_b3 : (Rows.careerMovesRow.recurses == Try.prog.recurses 9) = true := by kernel_rfl
theorem law13_CareerMoves_b4 : (Rows.careerMovesRow.named == Try.prog.varsNamed 9) = true := by kernel_rfl
end Go.Proofs.Ytchffdmfiffifaa
