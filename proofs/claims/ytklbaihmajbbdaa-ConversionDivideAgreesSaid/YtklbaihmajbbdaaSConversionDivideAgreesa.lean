/- The law ConversionDivideAgrees returns true for every input, and its arguments read afterwards as before. No condition. -/
import Derived.Test.YtklbaihmajbbdaaRConversionDivideAgrees
import Derived.Test.YtklbaihmajbbdaaA5
set_option linter.all false
set_option maxRecDepth 100000
namespace Go.Proofs.Ytklbaihmajbbdaa
open Go.Ax Go.ChangeShapes Go.WideShapes Go.ChangeAt Go.RowKit
theorem law22_ConversionDivideAgrees_b1 : (Rows.conversionDivideAgreesRow.inPlace == Try.prog.inPlace 11) = true := by kernel_rfl
theorem law22_ConversionDivideAgrees_b2 : (Rows.conversionDivideAgreesRow.unfollowed == Try.prog.unfollowed 11) = true := by kernel_rfl
end Go.Proofs.Ytklbaihmajbbdaa
