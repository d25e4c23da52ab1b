import Derived.Test.YtbjfcadcipfolaaGreatZQ1
/- The law FeedAddAgrees returns true for every input, and its arguments read afterwards as before. No condition. -/
set_option linter.all false
set_option maxRecDepth 100000
namespace Go.Proofs.YtbjfcadcipfolaaGreat
open Go.Ax Go.ChangeShapes Go.WideShapes Go.ChangeAt Go.RowKit
theorem v7:(Rows.feedAddAgreesRow.inPlace == Tryz.prog.inPlace 8) = true:=by kernel_rfl
theorem vr:(Rows.feedAddAgreesRow.unfollowed == Tryz.prog.unfollowed 8) = true:=by kernel_rfl
end Go.Proofs.YtbjfcadcipfolaaGreat
