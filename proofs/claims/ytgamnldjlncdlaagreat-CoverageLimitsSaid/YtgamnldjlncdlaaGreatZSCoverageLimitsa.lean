/- The law CoverageLimits returns true for every input, and its arguments read afterwards as before. No condition. -/
import Derived.Test.YtgamnldjlncdlaaGreatZRCoverageLimits
import Derived.Test.YtgamnldjlncdlaaGreatZA5
set_option linter.all false
set_option maxRecDepth 100000
namespace Go.Proofs.YtgamnldjlncdlaaGreat
open Go.Ax Go.ChangeShapes Go.WideShapes Go.ChangeAt Go.RowKit
theorem ze:(Rows.coverageLimitsRow.inPlace == Tryz.prog.inPlace 4) = true:=by kernel_rfl
theorem zg:(Rows.coverageLimitsRow.unfollowed == Tryz.prog.unfollowed 4) = true:=by kernel_rfl
end Go.Proofs.YtgamnldjlncdlaaGreat
