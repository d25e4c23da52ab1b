import Derived.Test.YtkijjjdaijjpaaaGreatA5
import Derived.Test.YtkijjjdaijjpaaaGreatRows
/- Facts of the program that every row asks. -/
set_option linter.all false
set_option maxRecDepth 100000
namespace Go.Ax
open Go.Proofs Go.Proofs.YtkijjjdaijjpaaaGreat
open Go.ChangeShapes Go.WideShapes Go.ChangeAt Go.RowKit
theorem q_own : ownKnob Tryz.prog.godebug = none := by kernel_rfl
theorem q_a2 : laidOutB Tryz.prog = true := by kernel_rfl
theorem q_a7 : (Tryz.prog.stops == []) = true := by kernel_rfl
theorem q_a9 : (Tryz.prog.stopKnobs == []) = true := by kernel_rfl
end Go.Ax
