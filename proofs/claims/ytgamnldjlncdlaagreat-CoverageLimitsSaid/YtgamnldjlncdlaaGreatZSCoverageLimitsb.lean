/- The law CoverageLimits returns true for every input, and its arguments read afterwards as before. No condition. -/
import Derived.Test.YtgamnldjlncdlaaGreatZSCoverageLimitsa
set_option linter.all false
set_option maxRecDepth 100000
namespace Go.Proofs.YtgamnldjlncdlaaGreat
open Go.Ax Go.ChangeShapes Go.WideShapes Go.ChangeAt Go.RowKit
theorem zf:(Rows.coverageLimitsRow.recurses == Tryz.prog.recurses 4) = true:=by kernel_rfl
theorem za:(Rows.coverageLimitsRow.named == Tryz.prog.varsNamed 4) = true:=by kernel_rfl
end Go.Proofs.YtgamnldjlncdlaaGreat
