/- The law CareerFamily returns true for every input, and its arguments read afterwards as before. No condition. -/
import Derived.Test.YtefjkielgagknaaRCareerFamily
import Derived.Test.YtefjkielgagknaaA5
set_option linter.all false
set_option maxRecDepth 100000
namespace Go.Proofs.Ytefjkielgagknaa
open Go.Ax Go.ChangeShapes Go.WideShapes Go.ChangeAt Go.RowKit
theorem law13_CareerFamily_b1 : (Rows.careerFamilyRow.inPlace == Try.prog.inPlace 3) = true := by kernel_rfl
theorem law13_CareerFamily_b2 : (Rows.careerFamilyRow.unfollowed == Try.prog.unfollowed 3) = true := by kernel_rfl
end Go.Proofs.Ytefjkielgagknaa
