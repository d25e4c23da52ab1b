/- The law ConversionSurvivorsAreValid returns true for every input, and its arguments read afterwards as before. No condition. -/
import Derived.Test.YtkijjjdaijjpaaaGreatSConversionSurvivorsAreValida
set_option linter.all false
set_option maxRecDepth 100000
namespace Go.Proofs.YtkijjjdaijjpaaaGreat
open Go.Ax Go.ChangeShapes Go.WideShapes Go.ChangeAt Go.RowKit
theorem law22_ConversionSurvivorsAreValid_b3 : (Rows.conversionSurvivorsAreValidRow.recurses == Tryz.prog.recurses 5) = true := by kernel_rfl
theorem law22_ConversionSurvivorsAreValid_b4 : (Rows.conversionSurvivorsAreValidRow.named == Tryz.prog.varsNamed 5) = true := by kernel_rfl
end Go.Proofs.YtkijjjdaijjpaaaGreat
