import Derived.Test.YtbjfcadcipfolaaGreatZQ1
/- The law FeedAddRejects returns true for every input, and its arguments read afterwards as before. No condition. -/
set_option linter.all false
set_option maxRecDepth 100000
namespace Go.Proofs.YtbjfcadcipfolaaGreat
open Go.Ax Go.ChangeShapes Go.WideShapes Go.ChangeAt Go.RowKit
theorem ud:(Rows.feedAddRejectsRow.inPlace == Tryz.prog.inPlace 9) = true:=by kernel_rfl
theorem uB:(Rows.feedAddRejectsRow.unfollowed == Tryz.prog.unfollowed 9) = true:=by kernel_rfl
end Go.Proofs.YtbjfcadcipfolaaGreat
