/- The law ConversionDivideRejects returns true for every input, and its arguments read afterwards as before. No condition. -/
import Derived.Test.YtklbaihmajbbdaaSConversionDivideRejectsa
set_option linter.all false
set_option maxRecDepth 100000
namespace Go.Proofs.Ytklbaihmajbbdaa
open Go.Ax Go.ChangeShapes Go.WideShapes Go.ChangeAt Go.RowKit
theorem law22_ConversionDivideRejects_b3 : (Rows.conversionDivideRejectsRow.recurses == Try.prog.recurses 7) = true := by kernel_rfl
theorem law22_ConversionDivideRejects_b4 : (Rows.conversionDivideRejectsRow.named == Try.prog.varsNamed 7) = true := by kernel_rfl
end Go.Proofs.Ytklbaihmajbbdaa
