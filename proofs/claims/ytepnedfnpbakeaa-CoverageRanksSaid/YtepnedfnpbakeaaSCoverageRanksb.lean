/- The law CoverageRanks returns true for every input, and its arguments read afterwards as before. No condition. -/
import Derived.Test.YtepnedfnpbakeaaSCoverageRanksa
set_option linter.all false
set_option maxRecDepth 100000
namespace Go.Proofs.Ytepnedfnpbakeaa
open Go.Ax Go.ChangeShapes Go.WideShapes Go.ChangeAt Go.RowKit
theorem law16_CoverageRanks_b3 : (Rows.coverageRanksRow.recurses == Try.prog.recurses 3) = true := by kernel_rfl
theorem law16_CoverageRanks_b4 : (Rows.coverageRanksRow.named == Try.prog.varsNamed 3) = true := by kernel_rfl
end Go.Proofs.Ytepnedfnpbakeaa
