/- The law ConversionConvertAgrees returns true for every input, and its arguments read afterwards as before. No condition. -/
import Derived.Test.YtklbaihmajbbdaaRConversionConvertAgrees
import Derived.Test.YtklbaihmajbbdaaA7
set_option linter.all false
set_option maxRecDepth 100000
namespace Go.Proofs.Ytklbaihmajbbdaa
open Go.Ax Go.ChangeShapes Go.WideShapes Go.ChangeAt Go.RowKit
theorem law22_ConversionConvertAgrees_b1 : (Rows.conversionConvertAgreesRow.inPlace == Try.prog.inPlace 3) = true := by kernel_rfl
theorem law22_ConversionConvertAgrees_b2 : (Rows.conversionConvertAgreesRow.unfollowed == Try.prog.unfollowed 3) = true := by kernel_rfl
end Go.Proofs.Ytklbaihmajbbdaa
