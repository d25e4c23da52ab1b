/- The law ConversionIsIdempotent returns true for every input, and its arguments read afterwards as before. No condition. -/
import Derived.Test.YtklbaihmajbbdaaSConversionIsIdempotenta
set_option linter.all false
set_option maxRecDepth 100000
namespace Go.Proofs.Ytklbaihmajbbdaa
open Go.Ax Go.ChangeShapes Go.WideShapes Go.ChangeAt Go.RowKit
theorem law22_ConversionIsIdempotent_b3 : (Rows.conversionIsIdempotentRow.recurses == Try.prog.recurses 5) = true := by kernel_rfl
theorem law22_ConversionIsIdempotent_b4 : (Rows.conversionIsIdempotentRow.named == Try.prog.varsNamed 5) = true := by kernel_rfl
end Go.Proofs.Ytklbaihmajbbdaa
