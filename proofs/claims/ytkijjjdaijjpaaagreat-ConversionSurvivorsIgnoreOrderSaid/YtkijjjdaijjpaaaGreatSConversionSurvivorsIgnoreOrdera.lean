/- The law ConversionSurvivorsIgnoreOrder returns true for every input, and its arguments read afterwards as before. No condition. -/
import Derived.Test.YtkijjjdaijjpaaaGreatRConversionSurvivorsIgnoreOrder
import Derived.Test.YtkijjjdaijjpaaaGreatA5
set_option linter.all false
set_option maxRecDepth 100000
namespace Go.Proofs.YtkijjjdaijjpaaaGreat
open Go.Ax Go.ChangeShapes Go.WideShapes Go.ChangeAt Go.RowKit
theorem law22_ConversionSurvivorsIgnoreOrder_b1 : (Rows.conversionSurvivorsIgnoreOrderRow.inPlace == Tryz.prog.inPlace 4) = true := by kernel_rfl
theorem law22_ConversionSurvivorsIgnoreOrder_b2 : (Rows.conversionSurvivorsIgnoreOrderRow.unfollowed == Tryz.prog.unfollowed 4) = true := by kernel_rfl
end Go.Proofs.YtkijjjdaijjpaaaGreat
