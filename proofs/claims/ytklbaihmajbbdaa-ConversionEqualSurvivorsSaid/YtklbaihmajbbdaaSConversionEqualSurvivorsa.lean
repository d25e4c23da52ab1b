/- The law ConversionEqualSurvivors returns true for every input, and its arguments read afterwards as before. No condition. -/
import Derived.Test.YtklbaihmajbbdaaRConversionEqualSurvivors
import Derived.Test.YtklbaihmajbbdaaA5
set_option linter.all false
set_option maxRecDepth 100000
namespace Go.Proofs.Ytklbaihmajbbdaa
open Go.Ax Go.ChangeShapes Go.WideShapes Go.ChangeAt Go.RowKit
theorem law22_ConversionEqualSurvivors_b1 : (Rows.conversionEqualSurvivorsRow.inPlace == Try.prog.inPlace 9) = true := by kernel_rfl
theorem law22_ConversionEqualSurvivors_b2 : (Rows.conversionEqualSurvivorsRow.unfollowed == Try.prog.unfollowed 9) = true := by kernel_rfl
end Go.Proofs.Ytklbaihmajbbdaa
