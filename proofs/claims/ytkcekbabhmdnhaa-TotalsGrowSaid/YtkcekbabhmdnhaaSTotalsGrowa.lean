/- The law TotalsGrow returns true for every input, and its arguments read afterwards as before. No condition. -/
import Derived.Test.YtkcekbabhmdnhaaRTotalsGrow
import Derived.Test.YtkcekbabhmdnhaaA5
set_option linter.all false
set_option maxRecDepth 100000
namespace Go.Proofs.Ytkcekbabhmdnhaa
open Go.Ax Go.ChangeShapes Go.WideShapes Go.ChangeAt Go.RowKit
theorem law18_TotalsGrow_b1 : (Rows.totalsGrowRow.inPlace == Try.prog.inPlace 6) = true := by kernel_rfl
theorem law18_TotalsGrow_b2 : (Rows.totalsGrowRow.unfollowed == Try.prog.unfollowed 6) = true := by kernel_rfl
end Go.Proofs.Ytkcekbabhmdnhaa
