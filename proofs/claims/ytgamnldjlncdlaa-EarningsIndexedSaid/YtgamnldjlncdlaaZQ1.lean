import Derived.Test.YtgamnldjlncdlaaZA5
import Derived.Test.YtgamnldjlncdlaaRows
/- Facts of the program that every row asks. -/
set_option linter.all false
set_option maxRecDepth 100000
namespace Go.Ax
open Go.Proofs Go.Proofs.Ytgamnldjlncdlaa
open Go.ChangeShapes Go.WideShapes Go.ChangeAt Go.RowKit
theorem Po : ownKnob Try.prog.godebug = none := by kernel_rfl
theorem Ms : laidOutB Try.prog = true := by kernel_rfl
theorem Qz : (Try.prog.stops == []) = true := by kernel_rfl
theorem Qs : (Try.prog.stopKnobs == []) = true := by kernel_rfl
end Go.Ax
