/- The law ConversionLeavesNoPair returns true for every input, and its arguments read afterwards as before. No condition. -/
import Derived.Test.YtklbaihmajbbdaaRConversionLeavesNoPair
import Derived.Test.YtklbaihmajbbdaaA5
set_option linter.all false
set_option maxRecDepth 100000
namespace Go.Proofs.Ytklbaihmajbbdaa
open Go.Ax Go.ChangeShapes Go.WideShapes Go.ChangeAt Go.RowKit
theorem law22_ConversionLeavesNoPair_b1 : (Rows.conversionLeavesNoPairRow.inPlace == Try.prog.inPlace 4) = true := by kernel_rfl
theorem law22_ConversionLeavesNoPair_b2 : (Rows.conversionLeavesNoPairRow.unfollowed == Try.prog.unfollowed 4) = true := by kernel_rfl
end Go.Proofs.Ytklbaihmajbbdaa
