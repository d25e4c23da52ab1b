/- The law ConversionSurvivorsAgree returns true for every input, and its arguments read afterwards as before. No condition. -/
import Derived.Test.YtkijjjdaijjpaaaGreatZRConversionSurvivorsAgree
import Derived.Test.YtkijjjdaijjpaaaGreatZA5
set_option linter.all false
set_option maxRecDepth 100000
namespace Go.Proofs.YtkijjjdaijjpaaaGreat
open Go.Ax Go.ChangeShapes Go.WideShapes Go.ChangeAt Go.RowKit
theorem qz : (Rows.conversionSurvivorsAgreeRow.inPlace == Tryz.prog.inPlace 3) = true := by kernel_rfl
theorem ql : (Rows.conversionSurvivorsAgreeRow.unfollowed == Tryz.prog.unfollowed 3) = true := by kernel_rfl
end Go.Proofs.YtkijjjdaijjpaaaGreat
