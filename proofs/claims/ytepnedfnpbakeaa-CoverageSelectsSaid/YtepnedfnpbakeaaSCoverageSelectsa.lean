/- The law CoverageSelects returns true for every input, and its arguments read afterwards as before. No condition. -/
import Derived.Test.YtepnedfnpbakeaaRCoverageSelects
import Derived.Test.YtepnedfnpbakeaaA5
set_option linter.all false
set_option maxRecDepth 100000
namespace Go.Proofs.Ytepnedfnpbakeaa
open Go.Ax Go.ChangeShapes Go.WideShapes Go.ChangeAt Go.RowKit
theorem law16_CoverageSelects_b1 : (Rows.coverageSelectsRow.inPlace == Try.prog.inPlace 4) = true := by kernel_rfl
theorem law16_CoverageSelects_b2 : (Rows.coverageSelectsRow.unfollowed == Try.prog.unfollowed 4) = true := by kernel_rfl
end Go.Proofs.Ytepnedfnpbakeaa
