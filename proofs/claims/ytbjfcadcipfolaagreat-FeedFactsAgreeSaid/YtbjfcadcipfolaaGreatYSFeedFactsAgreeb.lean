import Derived.Test.YtbjfcadcipfolaaGreatYQ1
/- The law FeedFactsAgree returns true for every input, and its arguments read afterwards as before. No condition. -/
set_option linter.all false
set_option maxRecDepth 100000
namespace Go.Proofs.YtbjfcadcipfolaaGreat
open Go.Ax Go.ChangeShapes Go.WideShapes Go.ChangeAt Go.RowKit
theorem tx:(Rows.feedFactsAgreeRow.recurses == Tryz.prog.recurses 10) = true:=by kernel_rfl
theorem tA:(Rows.feedFactsAgreeRow.named == Tryz.prog.varsNamed 10) = true:=by kernel_rfl
end Go.Proofs.YtbjfcadcipfolaaGreat
