import Derived.Test.YtkijjjdaijjpaaaGreatZA5
import Derived.Test.YtkijjjdaijjpaaaGreatRows
/- Facts of the program that every row asks. -/
set_option linter.all false
set_option maxRecDepth 100000
namespace Go.Ax
open Go.Proofs Go.Proofs.YtkijjjdaijjpaaaGreat
open Go.ChangeShapes Go.WideShapes Go.ChangeAt Go.RowKit
theorem ajv : ownKnob Tryz.prog.godebug = none := by kernel_rfl
theorem agr : laidOutB Tryz.prog = true := by kernel_rfl
theorem akT : (Tryz.prog.stops == []) = true := by kernel_rfl
theorem ak2 : (Tryz.prog.stopKnobs == []) = true := by kernel_rfl
end Go.Ax
