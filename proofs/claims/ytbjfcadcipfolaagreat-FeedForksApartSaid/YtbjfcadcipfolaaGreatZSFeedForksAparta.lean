import Derived.Test.YtbjfcadcipfolaaGreatZQ1
/- The law FeedForksApart returns true for every input, and its arguments read afterwards as before. No condition. -/
set_option linter.all false
set_option maxRecDepth 100000
namespace Go.Proofs.YtbjfcadcipfolaaGreat
open Go.Ax Go.ChangeShapes Go.WideShapes Go.ChangeAt Go.RowKit
theorem qs:(Rows.feedForksApartRow.inPlace == Tryz.prog.inPlace 11) = true:=by kernel_rfl
theorem qr:(Rows.feedForksApartRow.unfollowed == Tryz.prog.unfollowed 11) = true:=by kernel_rfl
end Go.Proofs.YtbjfcadcipfolaaGreat
