/- The law CareerArrival returns true for every input, and its arguments read afterwards as before. No condition. -/
import Derived.Test.YtchffdmfiffifaaSCareerArrivala
set_option linter.all false
set_option maxRecDepth 100000
namespace Go.Proofs.Ytchffdmfiffifaa
open Go.Ax Go.ChangeShapes Go.WideShapes Go.ChangeAt Go.RowKit
theorem law13_CareerArrival_b3 : (Rows.careerArrivalRow.recurses == Try.prog.recurses 6) = true := by kernel_rfl
theorem law13_CareerArrival_b4 : (Rows.careerArrivalRow.named == Try.prog.varsNamed 6) = true := by kernel_rfl
end Go.Proofs.Ytchffdmfiffifaa
