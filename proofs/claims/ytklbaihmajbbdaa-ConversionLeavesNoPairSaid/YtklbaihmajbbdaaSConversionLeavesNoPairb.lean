/- The law ConversionLeavesNoPair returns true for every input, and its arguments read afterwards as before. No condition. -/
import Derived.Test.YtklbaihmajbbdaaSConversionLeavesNoPaira
set_option linter.all false
set_option maxRecDepth 100000
namespace Go.Proofs.Ytklbaihmajbbdaa
open Go.Ax Go.ChangeShapes Go.WideShapes Go.ChangeAt Go.RowKit
theorem law22_ConversionLeavesNoPair_b3 : (Rows.conversionLeavesNoPairRow.recurses == Try.prog.recurses 4) = true := by kernel_rfl
theorem law22_ConversionLeavesNoPair_b4 : (Rows.conversionLeavesNoPairRow.named == Try.prog.varsNamed 4) = true := by kernel_rfl
end Go.Proofs.Ytklbaihmajbbdaa
