/- The law ConversionSharesAddUp returns true for every input, and its arguments read afterwards as before. No condition. -/
import Derived.Test.YtklbaihmajbbdaaRConversionSharesAddUp
import Derived.Test.YtklbaihmajbbdaaA5
set_option linter.all false
set_option maxRecDepth 100000
namespace Go.Proofs.Ytklbaihmajbbdaa
open Go.Ax Go.ChangeShapes Go.WideShapes Go.ChangeAt Go.RowKit
theorem law22_ConversionSharesAddUp_b1 : (Rows.conversionSharesAddUpRow.inPlace == Try.prog.inPlace 12) = true := by kernel_rfl
theorem law22_ConversionSharesAddUp_b2 : (Rows.conversionSharesAddUpRow.unfollowed == Try.prog.unfollowed 12) = true := by kernel_rfl
end Go.Proofs.Ytklbaihmajbbdaa
