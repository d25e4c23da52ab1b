/- The law ConversionConvertAgrees returns true for every input, and its arguments read afterwards as before. No condition. -/
import Derived.Test.YtklbaihmajbbdaaSConversionConvertAgreesa
set_option linter.all false
set_option maxRecDepth 100000
namespace Go.Proofs.Ytklbaihmajbbdaa
open Go.Ax Go.ChangeShapes Go.WideShapes Go.ChangeAt Go.RowKit
theorem law22_ConversionConvertAgrees_b3 : (Rows.conversionConvertAgreesRow.recurses == Try.prog.recurses 3) = true := by kernel_rfl
theorem law22_ConversionConvertAgrees_b4 : (Rows.conversionConvertAgreesRow.named == Try.prog.varsNamed 3) = true := by kernel_rfl
end Go.Proofs.Ytklbaihmajbbdaa
