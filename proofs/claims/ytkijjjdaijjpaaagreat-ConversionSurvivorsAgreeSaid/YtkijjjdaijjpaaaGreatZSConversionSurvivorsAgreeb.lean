/- The law ConversionSurvivorsAgree returns true for every input, and its arguments read afterwards as before. No condition. -/
import Derived.Test.YtkijjjdaijjpaaaGreatZSConversionSurvivorsAgreea
set_option linter.all false
set_option maxRecDepth 100000
namespace Go.Proofs.YtkijjjdaijjpaaaGreat
open Go.Ax Go.ChangeShapes Go.WideShapes Go.ChangeAt Go.RowKit
theorem qK : (Rows.conversionSurvivorsAgreeRow.recurses == Tryz.prog.recurses 3) = true := by kernel_rfl
theorem qn : (Rows.conversionSurvivorsAgreeRow.named == Tryz.prog.varsNamed 3) = true := by kernel_rfl
end Go.Proofs.YtkijjjdaijjpaaaGreat
