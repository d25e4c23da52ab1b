/- The law TotalsSums returns true for every input, and its arguments read afterwards as before. No condition. -/
import Derived.Test.YtkcekbabhmdnhaaSTotalsSumsa
set_option linter.all false
set_option maxRecDepth 100000
namespace Go.Proofs.Ytkcekbabhmdnhaa
open Go.Ax Go.ChangeShapes Go.WideShapes Go.ChangeAt Go.RowKit
theorem law18_TotalsSums_b3 : (Rows.totalsSumsRow.recurses == Try.prog.recurses 5) = true := by kernel_rfl
theorem law18_TotalsSums_b4 : (Rows.totalsSumsRow.named == Try.prog.varsNamed 5) = true := by kernel_rfl
end Go.Proofs.Ytkcekbabhmdnhaa
