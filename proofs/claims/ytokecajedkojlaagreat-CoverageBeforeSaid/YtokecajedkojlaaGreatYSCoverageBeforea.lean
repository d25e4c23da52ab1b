import Derived.Test.YtokecajedkojlaaGreatYQ3
/- The law CoverageBefore returns true for every input, and its arguments read afterwards as before. No condition. -/
set_option linter.all false
set_option maxRecDepth 100000
namespace Go.Proofs.YtokecajedkojlaaGreat
open Go.Ax Go.ChangeShapes Go.WideShapes Go.ChangeAt Go.RowKit
theorem q7:(Rows.coverageBeforeRow.inPlace == Tryz.prog.inPlace 4) = true:=by kernel_rfl
theorem qZ:(Rows.coverageBeforeRow.unfollowed == Tryz.prog.unfollowed 4) = true:=by kernel_rfl
end Go.Proofs.YtokecajedkojlaaGreat
