/- The law TotalsFractions returns true for every input, and its arguments read afterwards as before. No condition. -/
import Derived.Test.YtkcekbabhmdnhaaSTotalsFractionsa
set_option linter.all false
set_option maxRecDepth 100000
namespace Go.Proofs.Ytkcekbabhmdnhaa
open Go.Ax Go.ChangeShapes Go.WideShapes Go.ChangeAt Go.RowKit
theorem law18_TotalsFractions_b3 : (Rows.totalsFractionsRow.recurses == Try.prog.recurses 4) = true := by kernel_rfl
theorem law18_TotalsFractions_b4 : (Rows.totalsFractionsRow.named == Try.prog.varsNamed 4) = true := by kernel_rfl
end Go.Proofs.Ytkcekbabhmdnhaa
