/- The law CareerSelects returns true for every input, and its arguments read afterwards as before. No condition. -/
import Derived.Test.YtchffdmfiffifaaSCareerSelectsa
set_option linter.all false
set_option maxRecDepth 100000
namespace Go.Proofs.Ytchffdmfiffifaa
open Go.Ax Go.ChangeShapes Go.WideShapes Go.ChangeAt Go.RowKit
theorem law13_CareerSelects_b3 : (Rows.careerSelectsRow.recurses == Try.prog.recurses 12) = true := by kernel_rfl
theorem law13_CareerSelects_b4 : (Rows.careerSelectsRow.named == Try.prog.varsNamed 12) = true := by kernel_rfl
end Go.Proofs.Ytchffdmfiffifaa
