/- The law CareerLattice returns true for every input, and its arguments read afterwards as before. No condition. -/
import Derived.Test.YtchffdmfiffifaaRCareerLattice
import Derived.Test.YtchffdmfiffifaaA5
set_option linter.all false
set_option maxRecDepth 100000
namespace Go.Proofs.Ytchffdmfiffifaa
open Go.Ax Go.ChangeShapes Go.WideShapes Go.ChangeAt Go.RowKit
theorem law13_CareerLattice_b1 : (Rows.careerLatticeRow.inPlace == Try.prog.inPlace 5) = true := by kernel_rfl
theorem law13_CareerLattice_b2 : (Rows.careerLatticeRow.unfollowed == Try.prog.unfollowed 5) = true := by kernel_rfl
end Go.Proofs.Ytchffdmfiffifaa
