/- The law ConversionPartsAreFair returns true for every input, and its arguments read afterwards as before. No condition. -/
import Derived.Test.YtklbaihmajbbdaaRConversionPartsAreFair
import Derived.Test.YtklbaihmajbbdaaA5
set_option linter.all false
set_option maxRecDepth 100000
namespace Go.Proofs.Ytklbaihmajbbdaa
open Go.Ax Go.ChangeShapes Go.WideShapes Go.ChangeAt Go.RowKit
theorem law22_ConversionPartsAreFair_b1 : (Rows.conversionPartsAreFairRow.inPlace == Try.prog.inPlace 13) = true := by kernel_rfl
theorem law22_ConversionPartsAreFair_b2 : (Rows.conversionPartsAreFairRow.unfollowed == Try.prog.unfollowed 13) = true := by kernel_rfl
end Go.Proofs.Ytklbaihmajbbdaa
