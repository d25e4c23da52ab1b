import Derived.Test.YtbjfcadcipfolaaGreatZQ1
/- The law FeedGetAgrees returns true for every input, and its arguments read afterwards as before. No condition. -/
set_option linter.all false
set_option maxRecDepth 100000
namespace Go.Proofs.YtbjfcadcipfolaaGreat
open Go.Ax Go.ChangeShapes Go.WideShapes Go.ChangeAt Go.RowKit
theorem wj:(Rows.feedGetAgreesRow.inPlace == Tryz.prog.inPlace 3) = true:=by kernel_rfl
theorem vW:(Rows.feedGetAgreesRow.unfollowed == Tryz.prog.unfollowed 3) = true:=by kernel_rfl
end Go.Proofs.YtbjfcadcipfolaaGreat
