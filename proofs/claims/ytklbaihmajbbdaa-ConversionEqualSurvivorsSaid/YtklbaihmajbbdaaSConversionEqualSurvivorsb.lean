/- The law ConversionEqualSurvivors returns true for every input, and its arguments read afterwards as before. No condition. -/
import Derived.Test.YtklbaihmajbbdaaSConversionEqualSurvivorsa
set_option linter.all false
set_option maxRecDepth 100000
namespace Go.Proofs.Ytklbaihmajbbdaa
open Go.Ax Go.ChangeShapes Go.WideShapes Go.ChangeAt Go.RowKit
theorem law22_ConversionEqualSurvivors_b3 : (Rows.conversionEqualSurvivorsRow.recurses == Try.prog.recurses 9) = true := by kernel_rfl
theorem law22_ConversionEqualSurvivors_b4 : (Rows.conversionEqualSurvivorsRow.named == Try.prog.varsNamed 9) = true := by kernel_rfl
end Go.Proofs.Ytklbaihmajbbdaa
