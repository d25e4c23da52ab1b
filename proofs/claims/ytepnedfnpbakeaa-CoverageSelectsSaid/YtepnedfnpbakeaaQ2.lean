import Derived.Test.YtepnedfnpbakeaaQ1
/- Facts of the program that every row asks. -/
set_option linter.all false
set_option maxRecDepth 100000
namespace Go.Ax
open Go.Proofs Go.Proofs.Ytepnedfnpbakeaa
open Go.ChangeShapes Go.WideShapes Go.ChangeAt Go.RowKit
theorem q_a3 : mapsRowed Try.prog = true := by kernel_rfl
theorem q_c7 : Try.prog.stopsHeard = true := by kernel_rfl
end Go.Ax
