import Derived.Test.YtbjfcadcipfolaaGreatZQ1
/- The law FeedCountsWithoutGaps returns true for every input, and its arguments read afterwards as before. No condition. -/
set_option linter.all false
set_option maxRecDepth 100000
namespace Go.Proofs.YtbjfcadcipfolaaGreat
open Go.Ax Go.ChangeShapes Go.WideShapes Go.ChangeAt Go.RowKit
theorem nS:(Rows.feedCountsWithoutGapsRow.inPlace == Tryz.prog.inPlace 4) = true:=by kernel_rfl
theorem oT:(Rows.feedCountsWithoutGapsRow.unfollowed == Tryz.prog.unfollowed 4) = true:=by kernel_rfl
end Go.Proofs.YtbjfcadcipfolaaGreat
