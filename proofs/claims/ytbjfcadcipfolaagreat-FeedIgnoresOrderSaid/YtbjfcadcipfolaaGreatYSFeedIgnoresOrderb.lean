import Derived.Test.YtbjfcadcipfolaaGreatYQ1
/- The law FeedIgnoresOrder returns true for every input, and its arguments read afterwards as before. No condition. -/
set_option linter.all false
set_option maxRecDepth 100000
namespace Go.Proofs.YtbjfcadcipfolaaGreat
open Go.Ax Go.ChangeShapes Go.WideShapes Go.ChangeAt Go.RowKit
theorem rG:(Rows.feedIgnoresOrderRow.recurses == Tryz.prog.recurses 12) = true:=by kernel_rfl
theorem q9:(Rows.feedIgnoresOrderRow.named == Tryz.prog.varsNamed 12) = true:=by kernel_rfl
end Go.Proofs.YtbjfcadcipfolaaGreat
