/- The law ConversionSharesAgree returns true for every input, and its arguments read afterwards as before. No condition. -/
import Derived.Test.YtklbaihmajbbdaaSConversionSharesAgreea
set_option linter.all false
set_option maxRecDepth 100000
namespace Go.Proofs.Ytklbaihmajbbdaa
open Go.Ax Go.ChangeShapes Go.WideShapes Go.ChangeAt Go.RowKit
theorem law22_ConversionSharesAgree_b3 : (Rows.conversionSharesAgreeRow.recurses == Try.prog.recurses 10) = true := by kernel_rfl
theorem law22_ConversionSharesAgree_b4 : (Rows.conversionSharesAgreeRow.named == Try.prog.varsNamed 10) = true := by kernel_rfl
end Go.Proofs.Ytklbaihmajbbdaa
