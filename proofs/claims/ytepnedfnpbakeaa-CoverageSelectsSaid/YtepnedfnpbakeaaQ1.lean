import Derived.Test.YtepnedfnpbakeaaA5
import Derived.Test.YtepnedfnpbakeaaRows
/- Facts of the program that every row asks. -/
set_option linter.all false
set_option maxRecDepth 100000
namespace Go.Ax
open Go.Proofs Go.Proofs.Ytepnedfnpbakeaa
open Go.ChangeShapes Go.WideShapes Go.ChangeAt Go.RowKit
theorem q_own : ownKnob Try.prog.godebug = none := by kernel_rfl
theorem q_a2 : laidOutB Try.prog = true := by kernel_rfl
theorem q_a7 : (Try.prog.stops == []) = true := by kernel_rfl
theorem q_a9 : (Try.prog.stopKnobs == []) = true := by kernel_rfl
end Go.Ax
