/- The law EarningsIndexed returns true for every input, and its arguments read afterwards as before. No condition. -/
import Derived.Test.YtgamnldjlncdlaaZREarningsIndexed
import Derived.Test.YtgamnldjlncdlaaZA5
set_option linter.all false
set_option maxRecDepth 100000
namespace Go.Proofs.Ytgamnldjlncdlaa
open Go.Ax Go.ChangeShapes Go.WideShapes Go.ChangeAt Go.RowKit
theorem pE : (Rows.earningsIndexedRow.inPlace == Try.prog.inPlace 3) = true := by kernel_rfl
theorem p7 : (Rows.earningsIndexedRow.unfollowed == Try.prog.unfollowed 3) = true := by kernel_rfl
end Go.Proofs.Ytgamnldjlncdlaa
