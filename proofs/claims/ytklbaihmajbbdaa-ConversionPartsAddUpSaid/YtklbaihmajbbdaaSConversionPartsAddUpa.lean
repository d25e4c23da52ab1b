/- The law ConversionPartsAddUp returns true for every input, and its arguments read afterwards as before. No condition. -/
import Derived.Test.YtklbaihmajbbdaaRConversionPartsAddUp
import Derived.Test.YtklbaihmajbbdaaA5
set_option linter.all false
set_option maxRecDepth 100000
namespace Go.Proofs.Ytklbaihmajbbdaa
open Go.Ax Go.ChangeShapes Go.WideShapes Go.ChangeAt Go.RowKit
theorem law22_ConversionPartsAddUp_b1 : (Rows.conversionPartsAddUpRow.inPlace == Try.prog.inPlace 8) = true := by kernel_rfl
theorem law22_ConversionPartsAddUp_b2 : (Rows.conversionPartsAddUpRow.unfollowed == Try.prog.unfollowed 8) = true := by kernel_rfl
end Go.Proofs.Ytklbaihmajbbdaa
