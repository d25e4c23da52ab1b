import Derived.Test.YtbjfcadcipfolaaGreatZQ1
/- The law FeedMissingAgrees returns true for every input, and its arguments read afterwards as before. No condition. -/
set_option linter.all false
set_option maxRecDepth 100000
namespace Go.Proofs.YtbjfcadcipfolaaGreat
open Go.Ax Go.ChangeShapes Go.WideShapes Go.ChangeAt Go.RowKit
theorem rg:(Rows.feedMissingAgreesRow.inPlace == Tryz.prog.inPlace 5) = true:=by kernel_rfl
theorem rG:(Rows.feedMissingAgreesRow.unfollowed == Tryz.prog.unfollowed 5) = true:=by kernel_rfl
end Go.Proofs.YtbjfcadcipfolaaGreat
