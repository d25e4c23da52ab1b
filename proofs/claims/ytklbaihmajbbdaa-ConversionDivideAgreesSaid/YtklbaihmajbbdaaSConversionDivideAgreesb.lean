/- The law ConversionDivideAgrees returns true for every input, and its arguments read afterwards as before. No condition. -/
import Derived.Test.YtklbaihmajbbdaaSConversionDivideAgreesa
set_option linter.all false
set_option maxRecDepth 100000
namespace Go.Proofs.Ytklbaihmajbbdaa
open Go.Ax Go.ChangeShapes Go.WideShapes Go.ChangeAt Go.RowKit
theorem law22_ConversionDivideAgrees_b3 : (Rows.conversionDivideAgreesRow.recurses == Try.prog.recurses 11) = true := by kernel_rfl
theorem law22_ConversionDivideAgrees_b4 : (Rows.conversionDivideAgreesRow.named == Try.prog.varsNamed 11) = true := by kernel_rfl
end Go.Proofs.Ytklbaihmajbbdaa
