import Derived.Test.YtokecajedkojlaaGreatZQ1
/- The law EarningsYears returns true for every input, and its arguments read afterwards as before. No condition. -/
set_option linter.all false
set_option maxRecDepth 100000
namespace Go.Proofs.YtokecajedkojlaaGreat
open Go.Ax Go.ChangeShapes Go.WideShapes Go.ChangeAt Go.RowKit
theorem wO:(Rows.earningsYearsRow.inPlace == Tryz.prog.inPlace 5) = true:=by kernel_rfl
theorem xa:(Rows.earningsYearsRow.unfollowed == Tryz.prog.unfollowed 5) = true:=by kernel_rfl
end Go.Proofs.YtokecajedkojlaaGreat
