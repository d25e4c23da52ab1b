/- The law TotalsCompute returns true for every input, and its arguments read afterwards as before. No condition. -/
import Derived.Test.YtkcekbabhmdnhaaRTotalsCompute
import Derived.Test.YtkcekbabhmdnhaaA5
set_option linter.all false
set_option maxRecDepth 100000
namespace Go.Proofs.Ytkcekbabhmdnhaa
open Go.Ax Go.ChangeShapes Go.WideShapes Go.ChangeAt Go.RowKit
theorem law18_TotalsCompute_b1 : (Rows.totalsComputeRow.inPlace == Try.prog.inPlace 3) = true := by kernel_rfl
theorem law18_TotalsCompute_b2 : (Rows.totalsComputeRow.unfollowed == Try.prog.unfollowed 3) = true := by kernel_rfl
end Go.Proofs.Ytkcekbabhmdnhaa
