import Derived.Test.YtgamnldjlncdlaaZQ1
/- Facts of the program that every row asks. -/
set_option linter.all false
set_option maxRecDepth 100000
namespace Go.Ax
open Go.Proofs Go.Proofs.Ytgamnldjlncdlaa
open Go.ChangeShapes Go.WideShapes Go.ChangeAt Go.RowKit
theorem Qu : mapsRowed Try.prog = true := by kernel_rfl
theorem Qr : Try.prog.stopsHeard = true := by kernel_rfl
end Go.Ax
