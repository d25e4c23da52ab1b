/- The law ConversionSharesReject returns true for every input, and its arguments read afterwards as before. No condition. -/
import Derived.Test.YtklbaihmajbbdaaSConversionSharesRejecta
set_option linter.all false
set_option maxRecDepth 100000
namespace Go.Proofs.Ytklbaihmajbbdaa
open Go.Ax Go.ChangeShapes Go.WideShapes Go.ChangeAt Go.RowKit
theorem law22_ConversionSharesReject_b3 : (Rows.conversionSharesRejectRow.recurses == Try.prog.recurses 6) = true := by kernel_rfl
theorem law22_ConversionSharesReject_b4 : (Rows.conversionSharesRejectRow.named == Try.prog.varsNamed 6) = true := by kernel_rfl
end Go.Proofs.Ytklbaihmajbbdaa
