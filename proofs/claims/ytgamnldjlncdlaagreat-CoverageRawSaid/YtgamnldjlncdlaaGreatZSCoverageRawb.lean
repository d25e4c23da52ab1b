/- The law CoverageRaw returns true for every input, and its arguments read afterwards as before. No condition. -/
import Derived.Test.YtgamnldjlncdlaaGreatZSCoverageRawa
set_option linter.all false
set_option maxRecDepth 100000
namespace Go.Proofs.YtgamnldjlncdlaaGreat
open Go.Ax Go.ChangeShapes Go.WideShapes Go.ChangeAt Go.RowKit
theorem EC:(Rows.coverageRawRow.recurses == Tryz.prog.recurses 3) = true:=by kernel_rfl
theorem Ej:(Rows.coverageRawRow.named == Tryz.prog.varsNamed 3) = true:=by kernel_rfl
end Go.Proofs.YtgamnldjlncdlaaGreat
