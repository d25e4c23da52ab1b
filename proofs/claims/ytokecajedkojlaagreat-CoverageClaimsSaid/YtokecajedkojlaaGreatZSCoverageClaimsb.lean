import Derived.Test.YtokecajedkojlaaGreatZQ3
/- The law CoverageClaims returns true for every input, and its arguments read afterwards as before. No condition. -/
set_option linter.all false
set_option maxRecDepth 100000
namespace Go.Proofs.YtokecajedkojlaaGreat
open Go.Ax Go.ChangeShapes Go.WideShapes Go.ChangeAt Go.RowKit
theorem rJ:(Rows.coverageClaimsRow.recurses == Tryz.prog.recurses 3) = true:=by kernel_rfl
theorem rG:(Rows.coverageClaimsRow.named == Tryz.prog.varsNamed 3) = true:=by kernel_rfl
end Go.Proofs.YtokecajedkojlaaGreat
