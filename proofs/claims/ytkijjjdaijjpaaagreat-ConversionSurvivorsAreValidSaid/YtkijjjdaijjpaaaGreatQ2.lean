import Derived.Test.YtkijjjdaijjpaaaGreatQ1
/- Facts of the program that every row asks. -/
set_option linter.all false
set_option maxRecDepth 100000
namespace Go.Ax
open Go.Proofs Go.Proofs.YtkijjjdaijjpaaaGreat
open Go.ChangeShapes Go.WideShapes Go.ChangeAt Go.RowKit
theorem q_a3 : mapsRowed Tryz.prog = true := by kernel_rfl
theorem q_c7 : Tryz.prog.stopsHeard = true := by kernel_rfl
end Go.Ax
