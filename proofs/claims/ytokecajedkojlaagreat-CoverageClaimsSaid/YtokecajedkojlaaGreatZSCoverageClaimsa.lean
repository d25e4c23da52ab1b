import Derived.Test.YtokecajedkojlaaGreatZQ3
/- The law CoverageClaims returns true for every input, and its arguments read afterwards as before. No condition. -/
set_option linter.all false
set_option maxRecDepth 100000
namespace Go.Proofs.YtokecajedkojlaaGreat
open Go.Ax Go.ChangeShapes Go.WideShapes Go.ChangeAt Go.RowKit
theorem rH:(Rows.coverageClaimsRow.inPlace == Tryz.prog.inPlace 3) = true:=by kernel_rfl
theorem rM:(Rows.coverageClaimsRow.unfollowed == Tryz.prog.unfollowed 3) = true:=by kernel_rfl
end Go.Proofs.YtokecajedkojlaaGreat
