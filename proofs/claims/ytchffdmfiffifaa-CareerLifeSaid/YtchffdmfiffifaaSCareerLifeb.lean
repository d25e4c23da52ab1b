/- The law CareerLife returns true for every input, and its arguments read afterwards as before. No condition. -/
import Derived.Test.YtchffdmfiffifaaSCareerLifea
set_option linter.all false
set_option maxRecDepth 100000
namespace Go.Proofs.Ytchffdmfiffifaa
open Go.Ax Go.ChangeShapes Go.WideShapes Go.ChangeAt Go.RowKit
theorem law13_CareerLife_b3 : (Rows.careerLifeRow.recurses == Try.prog.recurses 11) = true := by kernel_rfl
theorem law13_CareerLife_b4 : (Rows.careerLifeRow.named == Try.prog.varsNamed 11) = true := by kernel_rfl
end Go.Proofs.Ytchffdmfiffifaa
