/- The law ConversionDivideRejects returns true for every input, and its arguments read afterwards as before. No condition. -/
import Derived.Test.YtklbaihmajbbdaaRConversionDivideRejects
import Derived.Test.YtklbaihmajbbdaaA5
set_option linter.all false
set_option maxRecDepth 100000
namespace Go.Proofs.Ytklbaihmajbbdaa
open Go.Ax Go.ChangeShapes Go.WideShapes Go.ChangeAt Go.RowKit
theorem law22_ConversionDivideRejects_b1 : (Rows.conversionDivideRejectsRow.inPlace == Try.prog.inPlace 7) = true := by kernel_rfl
theorem law22_ConversionDivideRejects_b2 : (Rows.conversionDivideRejectsRow.unfollowed == Try.prog.unfollowed 7) = true := by kernel_rfl
end Go.Proofs.Ytklbaihmajbbdaa
