/- The law ConversionSharesAgree returns true for every input, and its arguments read afterwards as before. No condition. -/
import Derived.Test.YtklbaihmajbbdaaRConversionSharesAgree
import Derived.Test.YtklbaihmajbbdaaA5
set_option linter.all false
set_option maxRecDepth 100000
namespace Go.Proofs.Ytklbaihmajbbdaa
open Go.Ax Go.ChangeShapes Go.WideShapes Go.ChangeAt Go.RowKit
theorem law22_ConversionSharesAgree_b1 : (Rows.conversionSharesAgreeRow.inPlace == Try.prog.inPlace 10) = true := by kernel_rfl
theorem law22_ConversionSharesAgree_b2 : (Rows.conversionSharesAgreeRow.unfollowed == Try.prog.unfollowed 10) = true := by kernel_rfl
end Go.Proofs.Ytklbaihmajbbdaa
