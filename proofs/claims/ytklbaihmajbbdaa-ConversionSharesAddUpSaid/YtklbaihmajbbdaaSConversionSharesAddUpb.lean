/- The law ConversionSharesAddUp returns true for every input, and its arguments read afterwards as before. No condition. -/
import Derived.Test.YtklbaihmajbbdaaSConversionSharesAddUpa
set_option linter.all false
set_option maxRecDepth 100000
namespace Go.Proofs.Ytklbaihmajbbdaa
open Go.Ax Go.ChangeShapes Go.WideShapes Go.ChangeAt Go.RowKit
theorem law22_ConversionSharesAddUp_b3 : (Rows.conversionSharesAddUpRow.recurses == Try.prog.recurses 12) = true := by kernel_rfl
theorem law22_ConversionSharesAddUp_b4 : (Rows.conversionSharesAddUpRow.named == Try.prog.varsNamed 12) = true := by kernel_rfl
end Go.Proofs.Ytklbaihmajbbdaa
