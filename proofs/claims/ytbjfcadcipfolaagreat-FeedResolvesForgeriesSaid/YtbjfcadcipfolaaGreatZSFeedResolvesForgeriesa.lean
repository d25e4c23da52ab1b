import Derived.Test.YtbjfcadcipfolaaGreatZQ1
/- The law FeedResolvesForgeries returns true for every input, and its arguments read afterwards as before. No condition. -/
set_option linter.all false
set_option maxRecDepth 100000
namespace Go.Proofs.YtbjfcadcipfolaaGreat
open Go.Ax Go.ChangeShapes Go.WideShapes Go.ChangeAt Go.RowKit
theorem pk:(Rows.feedResolvesForgeriesRow.inPlace == Tryz.prog.inPlace 6) = true:=by kernel_rfl
theorem oy:(Rows.feedResolvesForgeriesRow.unfollowed == Tryz.prog.unfollowed 6) = true:=by kernel_rfl
end Go.Proofs.YtbjfcadcipfolaaGreat
