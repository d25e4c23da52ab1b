import Derived.Test.YtgamnldjlncdlaaGreatZA5
import Derived.Test.YtgamnldjlncdlaaGreatRows
/- Facts of the program that every row asks. -/
set_option linter.all false
set_option maxRecDepth 100000
namespace Go.Ax
open Go.Proofs Go.Proofs.YtgamnldjlncdlaaGreat
open Go.ChangeShapes Go.WideShapes Go.ChangeAt Go.RowKit
theorem amI:ownKnob Tryz.prog.godebug = none:=by kernel_rfl
theorem agM:laidOutB Tryz.prog = true:=by kernel_rfl
theorem anX:(Tryz.prog.stops == []) = true:=by kernel_rfl
theorem an4:(Tryz.prog.stopKnobs == []) = true:=by kernel_rfl
end Go.Ax
