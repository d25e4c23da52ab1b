import Derived.Test.YtbjfcadcipfolaaGreatZQ1
/- The law FeedReconciles returns true for every input, and its arguments read afterwards as before. No condition. -/
set_option linter.all false
set_option maxRecDepth 100000
namespace Go.Proofs.YtbjfcadcipfolaaGreat
open Go.Ax Go.ChangeShapes Go.WideShapes Go.ChangeAt Go.RowKit
theorem ug:(Rows.feedReconcilesRow.recurses == Tryz.prog.recurses 7) = true:=by kernel_rfl
theorem uc:(Rows.feedReconcilesRow.named == Tryz.prog.varsNamed 7) = true:=by kernel_rfl
end Go.Proofs.YtbjfcadcipfolaaGreat
