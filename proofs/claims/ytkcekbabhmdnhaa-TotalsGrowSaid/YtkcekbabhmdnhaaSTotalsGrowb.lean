/- The law TotalsGrow returns true for every input, and its arguments read afterwards as before. No condition. -/
import Derived.Test.YtkcekbabhmdnhaaSTotalsGrowa
set_option linter.all false
set_option maxRecDepth 100000
namespace Go.Proofs.Ytkcekbabhmdnhaa
open Go.Ax Go.ChangeShapes Go.WideShapes Go.ChangeAt Go.RowKit
theorem law18_TotalsGrow_b3 : (Rows.totalsGrowRow.recurses == Try.prog.recurses 6) = true := by kernel_rfl
theorem law18_TotalsGrow_b4 : (Rows.totalsGrowRow.named == Try.prog.varsNamed 6) = true := by kernel_rfl
end Go.Proofs.Ytkcekbabhmdnhaa
