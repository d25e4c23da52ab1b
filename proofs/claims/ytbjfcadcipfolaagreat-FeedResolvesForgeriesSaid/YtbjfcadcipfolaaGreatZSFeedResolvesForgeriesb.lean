import Derived.Test.YtbjfcadcipfolaaGreatZQ1
/- The law FeedResolvesForgeries returns true for every input, and its arguments read afterwards as before. No condition. -/
set_option linter.all false
set_option maxRecDepth 100000
namespace Go.Proofs.YtbjfcadcipfolaaGreat
open Go.Ax Go.ChangeShapes Go.WideShapes Go.ChangeAt Go.RowKit
theorem n9:(Rows.feedResolvesForgeriesRow.recurses == Tryz.prog.recurses 6) = true:=by kernel_rfl
theorem oI:(Rows.feedResolvesForgeriesRow.named == Tryz.prog.varsNamed 6) = true:=by kernel_rfl
end Go.Proofs.YtbjfcadcipfolaaGreat
