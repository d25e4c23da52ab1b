/- The law CareerWithdrawn returns true for every input, and its arguments read afterwards as before. No condition. -/
import Derived.Test.YtefjkielgagknaaGreatSCareerWithdrawna
set_option linter.all false
set_option maxRecDepth 100000
namespace Go.Proofs.YtefjkielgagknaaGreat
open Go.Ax Go.ChangeShapes Go.WideShapes Go.ChangeAt Go.RowKit
theorem law13_CareerWithdrawn_b3 : (Rows.careerWithdrawnRow.recurses == Tryz.prog.recurses 4) = true := by kernel_rfl
theorem law13_CareerWithdrawn_b4 : (Rows.careerWithdrawnRow.named == Tryz.prog.varsNamed 4) = true := by kernel_rfl
end Go.Proofs.YtefjkielgagknaaGreat
