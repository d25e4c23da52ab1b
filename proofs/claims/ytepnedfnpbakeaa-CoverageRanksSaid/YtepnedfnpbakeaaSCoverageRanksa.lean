/- The law CoverageRanks returns true for every input, and its arguments read afterwards as before. No condition. -/
import Derived.Test.YtepnedfnpbakeaaRCoverageRanks
import Derived.Test.YtepnedfnpbakeaaA5
set_option linter.all false
set_option maxRecDepth 100000
namespace Go.Proofs.Ytepnedfnpbakeaa
open Go.Ax Go.ChangeShapes Go.WideShapes Go.ChangeAt Go.RowKit
theorem law16_CoverageRanks_b1 : (Rows.coverageRanksRow.inPlace == Try.prog.inPlace 3) = true := by kernel_rfl
theorem law16_CoverageRanks_b2 : (Rows.coverageRanksRow.unfollowed == Try.prog.unfollowed 3) = true := by kernel_rfl
end Go.Proofs.Ytepnedfnpbakeaa
