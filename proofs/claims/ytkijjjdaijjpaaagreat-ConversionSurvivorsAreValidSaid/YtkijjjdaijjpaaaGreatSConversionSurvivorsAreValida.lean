/- The law ConversionSurvivorsAreValid returns true for every input, and its arguments read afterwards as before. No condition. -/
import Derived.Test.YtkijjjdaijjpaaaGreatRConversionSurvivorsAreValid
import Derived.Test.YtkijjjdaijjpaaaGreatA5
set_option linter.all false
set_option maxRecDepth 100000
namespace Go.Proofs.YtkijjjdaijjpaaaGreat
open Go.Ax Go.ChangeShapes Go.WideShapes Go.ChangeAt Go.RowKit
theorem law22_ConversionSurvivorsAreValid_b1 : (Rows.conversionSurvivorsAreValidRow.inPlace == Tryz.prog.inPlace 5) = true := by kernel_rfl
theorem law22_ConversionSurvivorsAreValid_b2 : (Rows.conversionSurvivorsAreValidRow.unfollowed == Tryz.prog.unfollowed 5) = true := by kernel_rfl
end Go.Proofs.YtkijjjdaijjpaaaGreat
