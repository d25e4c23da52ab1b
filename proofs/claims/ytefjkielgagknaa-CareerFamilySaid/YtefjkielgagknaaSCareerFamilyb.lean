/- The law CareerFamily returns true for every input, and its arguments read afterwards as before. No condition. -/
import Derived.Test.YtefjkielgagknaaSCareerFamilya
set_option linter.all false
set_option maxRecDepth 100000
namespace Go.Proofs.Ytefjkielgagknaa
open Go.Ax Go.ChangeShapes Go.WideShapes Go.ChangeAt Go.RowKit
theorem law13_CareerFamily_b3 : (Rows.careerFamilyRow.recurses == Try.prog.recurses 3) = true := by kernel_rfl
theorem law13_CareerFamily_b4 : (Rows.careerFamilyRow.named == Try.prog.varsNamed 3) = true := by kernel_rfl
end Go.Proofs.Ytefjkielgagknaa
