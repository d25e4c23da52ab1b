/- The law EarningsIndexed returns true for every input, and its arguments read afterwards as before. No condition. -/
import Derived.Test.YtgamnldjlncdlaaZSEarningsIndexeda
set_option linter.all false
set_option maxRecDepth 100000
namespace Go.Proofs.Ytgamnldjlncdlaa
open Go.Ax Go.ChangeShapes Go.WideShapes Go.ChangeAt Go.RowKit
theorem pC : (Rows.earningsIndexedRow.recurses == Try.prog.recurses 3) = true := by kernel_rfl
theorem p8 : (Rows.earningsIndexedRow.named == Try.prog.varsNamed 3) = true := by kernel_rfl
end Go.Proofs.Ytgamnldjlncdlaa
