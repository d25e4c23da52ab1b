/- The law CareerMerges returns true for every input, and its arguments read afterwards as before. No condition. -/
import Derived.Test.YtchffdmfiffifaaSCareerMergesa
set_option maxRecDepth 100000
namespace Go.Proofs.Ytchffdmfiffifaa
open Go.Ax Go.ChangeShapes Go.WideShapes Go.ChangeAt Go.RowKit
theorem law13_CareerMerges_b3 : (Rows.careerMergesRow.recurses == Try.prog.recurses 8) = true := by kernel_rfl
theorem law13_CareerMerges_b4 : (Rows.careerMergesRow.named == Try.prog.varsNamed 8) = true := by kernel_rfl
end Go.Proofs.Ytchffdmfiffifaa
