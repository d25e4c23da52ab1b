/- The law CoverageRaw returns true for every input, and its arguments read afterwards as before. No condition. -/
import Derived.Test.YtgamnldjlncdlaaGreatZRCoverageRaw
import Derived.Test.YtgamnldjlncdlaaGreatZA5
set_option linter.all false
set_option maxRecDepth 100000
namespace Go.Proofs.YtgamnldjlncdlaaGreat
open Go.Ax Go.ChangeShapes Go.WideShapes Go.ChangeAt Go.RowKit
theorem Ew:(Rows.coverageRawRow.inPlace == Tryz.prog.inPlace 3) = true:=by kernel_rfl
theorem Fp:(Rows.coverageRawRow.unfollowed == Tryz.prog.unfollowed 3) = true:=by kernel_rfl
end Go.Proofs.YtgamnldjlncdlaaGreat
