/- The law ConversionSharesReject returns true for every input, and its arguments read afterwards as before. No condition. -/
import Derived.Test.YtklbaihmajbbdaaRConversionSharesReject
import Derived.Test.YtklbaihmajbbdaaA5
set_option linter.all false
set_option maxRecDepth 100000
namespace Go.Proofs.Ytklbaihmajbbdaa
open Go.Ax Go.ChangeShapes Go.WideShapes Go.ChangeAt Go.RowKit
theorem law22_ConversionSharesReject_b1 : (Rows.conversionSharesRejectRow.inPlace == Try.prog.inPlace 6) = true := by kernel_rfl
theorem law22_ConversionSharesReject_b2 : (Rows.conversionSharesRejectRow.unfollowed == Try.prog.unfollowed 6) = true := by kernel_rfl
end Go.Proofs.Ytklbaihmajbbdaa
