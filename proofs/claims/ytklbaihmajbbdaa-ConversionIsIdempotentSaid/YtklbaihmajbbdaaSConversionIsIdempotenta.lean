/- The law ConversionIsIdempotent returns true for every input, and its arguments read afterwards as before. No condition. -/
import Derived.Test.YtklbaihmajbbdaaRConversionIsIdempotent
import Derived.Test.YtklbaihmajbbdaaA5
set_option linter.all false
set_option maxRecDepth 100000
namespace Go.Proofs.Ytklbaihmajbbdaa
open Go.Ax Go.ChangeShapes Go.WideShapes Go.ChangeAt Go.RowKit
theorem law22_ConversionIsIdempotent_b1 : (Rows.conversionIsIdempotentRow.inPlace == Try.prog.inPlace 5) = true := by kernel_rfl
theorem law22_ConversionIsIdempotent_b2 : (Rows.conversionIsIdempotentRow.unfollowed == Try.prog.unfollowed 5) = true := by kernel_rfl
end Go.Proofs.Ytklbaihmajbbdaa
