/- The law TotalsFractions returns true for every input, and its arguments read afterwards as before. No condition. -/
import Derived.Test.YtkcekbabhmdnhaaRTotalsFractions
import Derived.Test.YtkcekbabhmdnhaaA5
set_option linter.all false
set_option maxRecDepth 100000
namespace Go.Proofs.Ytkcekbabhmdnhaa
open Go.Ax Go.ChangeShapes Go.WideShapes Go.ChangeAt Go.RowKit
theorem law18_TotalsFractions_b1 : (Rows.totalsFractionsRow.inPlace == Try.prog.inPlace 4) = true := by kernel_rfl
theorem law18_TotalsFractions_b2 : (Rows.totalsFractionsRow.unfollowed == Try.prog.unfollowed 4) = true := by kernel_rfl
end Go.Proofs.Ytkcekbabhmdnhaa
