/- The law CoverageSelects returns true for every input, and its arguments read afterwards as before. No condition. -/
import Derived.Test.YtepnedfnpbakeaaSCoverageSelectsa
set_option linter.all false
set_option maxRecDepth 100000
namespace Go.Proofs.Ytepnedfnpbakeaa
open Go.Ax Go.ChangeShapes Go.WideShapes Go.ChangeAt Go.RowKit
theorem law16_CoverageSelects_b3 : (Rows.coverageSelectsRow.recurses == Try.prog.recurses 4) = true := by kernel_rfl
theorem law16_CoverageSelects_b4 : (Rows.coverageSelectsRow.named == Try.prog.varsNamed 4) = true := by kernel_rfl
end Go.Proofs.Ytepnedfnpbakeaa
