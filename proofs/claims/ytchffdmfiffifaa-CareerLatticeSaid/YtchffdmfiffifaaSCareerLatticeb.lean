/- The law CareerLattice returns true for every input, and its arguments read afterwards as before. No condition. -/
import Derived.Test.YtchffdmfiffifaaSCareerLatticea
set_option linter.all false
set_option maxRecDepth 100000
namespace Go.Proofs.Ytchffdmfiffifaa
open Go.Ax Go.ChangeShapes Go.WideShapes Go.ChangeAt Go.RowKit
theorem law13_CareerLattice_b3 : (Rows.careerLatticeRow.recurses == Try.prog.recurses 5) = true := by kernel_rfl
theorem law13_CareerLattice_b4 : (Rows.careerLatticeRow.named == Try.prog.varsNamed 5) = true := by kernel_rfl
end Go.Proofs.Ytchffdmfiffifaa
