/- The law TotalsAddUp returns true for every input, and its arguments read afterwards as before. No condition. -/
import Derived.Test.YtkcekbabhmdnhaaSTotalsAddUpa
set_option linter.all false
set_option maxRecDepth 100000
namespace Go.Proofs.Ytkcekbabhmdnhaa
open Go.Ax Go.ChangeShapes Go.WideShapes Go.ChangeAt Go.RowKit
theorem law18_TotalsAddUp_b3 : (Rows.totalsAddUpRow.recurses == Try.prog.recurses 7) = true := by kernel_rfl
theorem law18_TotalsAddUp_b4 : (Rows.totalsAddUpRow.named == Try.prog.varsNamed 7) = true := by kernel_rfl
end Go.Proofs.Ytkcekbabhmdnhaa
