/- The law TotalsSums returns true for every input, and its arguments read afterwards as before. No condition. -/
import Derived.Test.YtkcekbabhmdnhaaRTotalsSums
import Derived.Test.YtkcekbabhmdnhaaA5
set_option linter.all false
set_option maxRecDepth 100000
namespace Go.Proofs.Ytkcekbabhmdnhaa
open Go.Ax Go.ChangeShapes Go.WideShapes Go.ChangeAt Go.RowKit
theorem law18_TotalsSums_b1 : (Rows.totalsSumsRow.inPlace == Try.prog.inPlace 5) = true := by kernel_rfl
theorem law18_TotalsSums_b2 : (Rows.totalsSumsRow.unfollowed == Try.prog.unfollowed 5) = true := by kernel_rfl
end Go.Proofs.Ytkcekbabhmdnhaa
