import Derived.Test.YtbjfcadcipfolaaGreatZQ1
/- The law FeedForksApart returns true for every input, and its arguments read afterwards as before. No condition. -/
set_option linter.all false
set_option maxRecDepth 100000
namespace Go.Proofs.YtbjfcadcipfolaaGreat
open Go.Ax Go.ChangeShapes Go.WideShapes Go.ChangeAt Go.RowKit
theorem qk:(Rows.feedForksApartRow.recurses == Tryz.prog.recurses 11) = true:=by kernel_rfl
theorem ql:(Rows.feedForksApartRow.named == Tryz.prog.varsNamed 11) = true:=by kernel_rfl
end Go.Proofs.YtbjfcadcipfolaaGreat
