/- The law TotalsAddUp returns true for every input, and its arguments read afterwards as before. No condition. -/
import Derived.Test.YtkcekbabhmdnhaaRTotalsAddUp
import Derived.Test.YtkcekbabhmdnhaaA5
set_option linter.all false
set_option maxRecDepth 100000
namespace Go.Proofs.Ytkcekbabhmdnhaa
open Go.Ax Go.ChangeShapes Go.WideShapes Go.ChangeAt Go.RowKit
theorem law18_TotalsAddUp_b1 : (Rows.totalsAddUpRow.inPlace == Try.prog.inPlace 7) = true := by kernel_rfl
theorem law18_TotalsAddUp_b2 : (Rows.totalsAddUpRow.unfollowed == Try.prog.unfollowed 7) = true := by kernel_rfl
end Go.Proofs.Ytkcekbabhmdnhaa
