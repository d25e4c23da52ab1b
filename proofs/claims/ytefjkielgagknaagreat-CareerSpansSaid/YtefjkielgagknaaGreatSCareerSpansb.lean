/- The law CareerSpans returns true for every input, and its arguments read afterwards as before. No condition. -/
import Derived.Test.YtefjkielgagknaaGreatSCareerSpansa
set_option linter.all false
set_option maxRecDepth 100000
namespace Go.Proofs.YtefjkielgagknaaGreat
open Go.Ax Go.ChangeShapes Go.WideShapes Go.ChangeAt Go.RowKit
theorem law13_CareerSpans_b3 : (Rows.careerSpansRow.recurses == Tryz.prog.recurses 3) = true := by kernel_rfl
theorem law13_CareerSpans_b4 : (Rows.careerSpansRow.named == Tryz.prog.varsNamed 3) = true := by kernel_rfl
end Go.Proofs.YtefjkielgagknaaGreat
