/- The law CareerWithdrawn returns true for every input, and its arguments read afterwards as before. No condition. -/
import Derived.Test.YtefjkielgagknaaGreatRCareerWithdrawn
import Derived.Test.YtefjkielgagknaaGreatA5
set_option linter.all false
set_option maxRecDepth 100000
namespace Go.Proofs.YtefjkielgagknaaGreat
open Go.Ax Go.ChangeShapes Go.WideShapes Go.ChangeAt Go.RowKit
theorem law13_CareerWithdrawn_b1 : (Rows.careerWithdrawnRow.inPlace == Tryz.prog.inPlace 4) = true := by kernel_rfl
theorem law13_CareerWithdrawn_b2 : (Rows.careerWithdrawnRow.unfollowed == Tryz.prog.unfollowed 4) = true := by kernel_rfl
end Go.Proofs.YtefjkielgagknaaGreat
