import Derived.Test.YtokecajedkojlaaGreatZQ1
/- The law EarningsOnce returns true for every input, and its arguments read afterwards as before. No condition. -/
set_option linter.all false
set_option maxRecDepth 100000
namespace Go.Proofs.YtokecajedkojlaaGreat
open Go.Ax Go.ChangeShapes Go.WideShapes Go.ChangeAt Go.RowKit
theorem xZ:(Rows.earningsOnceRow.recurses == Tryz.prog.recurses 6) = true:=by kernel_rfl
theorem xR:(Rows.earningsOnceRow.named == Tryz.prog.varsNamed 6) = true:=by kernel_rfl
end Go.Proofs.YtokecajedkojlaaGreat
