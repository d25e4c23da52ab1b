/- The law ConversionSurvivorsIgnoreOrder returns true for every input, and its arguments read afterwards as before. No condition. -/
import Derived.Test.YtkijjjdaijjpaaaGreatSConversionSurvivorsIgnoreOrdera
set_option linter.all false
set_option maxRecDepth 100000
namespace Go.Proofs.YtkijjjdaijjpaaaGreat
open Go.Ax Go.ChangeShapes Go.WideShapes Go.ChangeAt Go.RowKit
theorem law22_ConversionSurvivorsIgnoreOrder_b3 : (Rows.conversionSurvivorsIgnoreOrderRow.recurses == Tryz.prog.recurses 4) = true := by kernel_rfl
theorem law22_ConversionSurvivorsIgnoreOrder_b4 : (Rows.conversionSurvivorsIgnoreOrderRow.named == Tryz.prog.varsNamed 4) = true := by kernel_rfl
end Go.Proofs.YtkijjjdaijjpaaaGreat
