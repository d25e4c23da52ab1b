/- The law TotalsCompute returns true for every input, and its arguments read afterwards as before. No condition. -/
import Derived.Test.YtkcekbabhmdnhaaSTotalsComputea
set_option linter.all false
set_option maxRecDepth 100000
namespace Go.Proofs.Ytkcekbabhmdnhaa
open Go.Ax Go.ChangeShapes Go.WideShapes Go.ChangeAt Go.RowKit
theorem law18_TotalsCompute_b3 : (Rows.totalsComputeRow.recurses == Try.prog.recurses 3) = true := by kernel_rfl
theorem law18_TotalsCompute_b4 : (Rows.totalsComputeRow.named == Try.prog.varsNamed 3) = true := by kernel_rfl
end Go.Proofs.Ytkcekbabhmdnhaa
