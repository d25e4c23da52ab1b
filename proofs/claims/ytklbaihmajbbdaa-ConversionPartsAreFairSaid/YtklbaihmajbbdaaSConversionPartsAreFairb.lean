/- The law ConversionPartsAreFair returns true for every input, and its arguments read afterwards as before. No condition. -/
import Derived.Test.YtklbaihmajbbdaaSConversionPartsAreFaira
set_option linter.all false
set_option maxRecDepth 100000
namespace Go.Proofs.Ytklbaihmajbbdaa
open Go.Ax Go.ChangeShapes Go.WideShapes Go.ChangeAt Go.RowKit
theorem law22_ConversionPartsAreFair_b3 : (Rows.conversionPartsAreFairRow.recurses == Try.prog.recurses 13) = true := by kernel_rfl
theorem law22_ConversionPartsAreFair_b4 : (Rows.conversionPartsAreFairRow.named == Try.prog.varsNamed 13) = true := by kernel_rfl
end Go.Proofs.Ytklbaihmajbbdaa
