/- The law CareerSpans returns true for every input, and its arguments read afterwards as before. No condition. -/
import Derived.Test.YtefjkielgagknaaGreatRCareerSpans
import Derived.Test.YtefjkielgagknaaGreatA5
set_option linter.all false
set_option maxRecDepth 100000
namespace Go.Proofs.YtefjkielgagknaaGreat
open Go.Ax Go.ChangeShapes Go.WideShapes Go.ChangeAt Go.RowKit
theorem law13_CareerSpans_b1 : (Rows.careerSpansRow.inPlace == Tryz.prog.inPlace 3) = true := by kernel_rfl
theorem law13_CareerSpans_b2 : (Rows.careerSpansRow.unfollowed == Tryz.prog.unfollowed 3) = true := by kernel_rfl
end Go.Proofs.YtefjkielgagknaaGreat
