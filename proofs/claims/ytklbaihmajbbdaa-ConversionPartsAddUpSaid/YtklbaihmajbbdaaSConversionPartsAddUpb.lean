/- The law ConversionPartsAddUp returns true for every input, and its arguments read afterwards as before. No condition. -/
import Derived.Test.YtklbaihmajbbdaaSConversionPartsAddUpa
set_option linter.all false
set_option maxRecDepth 100000
namespace Go.Proofs.Ytklbaihmajbbdaa
open Go.Ax Go.ChangeShapes Go.WideShapes Go.ChangeAt Go.RowKit
theorem law22_ConversionPartsAddUp_b3 : (Rows.conversionPartsAddUpRow.recurses == Try.prog.recurses 8) = true := by kernel_rfl
theorem law22_ConversionPartsAddUp_b4 : (Rows.conversionPartsAddUpRow.named == Try.prog.varsNamed 8) = true := by kernel_rfl
end Go.Proofs.Ytklbaihmajbbdaa
