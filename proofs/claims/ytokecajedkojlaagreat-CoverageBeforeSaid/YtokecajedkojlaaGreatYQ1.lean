import Derived.Test.YtokecajedkojlaaGreatYB13
import Derived.Test.YtokecajedkojlaaGreatRows
/- Facts of the program that every row asks. -/
set_option linter.all false
set_option maxRecDepth 100000
namespace Go.Ax
open Go.Proofs Go.Proofs.YtokecajedkojlaaGreat
open Go.ChangeShapes Go.WideShapes Go.ChangeAt Go.RowKit
theorem Pb:ownKnob Tryz.prog.godebug = none:=by kernel_rfl
theorem OA:laidOutB Tryz.prog = true:=by kernel_rfl
theorem PE:(Tryz.prog.stops == []) = true:=by kernel_rfl
theorem PK:(Tryz.prog.stopKnobs == []) = true:=by kernel_rfl
end Go.Ax
