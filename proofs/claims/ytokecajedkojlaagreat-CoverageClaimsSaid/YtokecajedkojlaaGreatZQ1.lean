import Derived.Test.YtokecajedkojlaaGreatZB13
import Derived.Test.YtokecajedkojlaaGreatRows
/- Facts of the program that every row asks. -/
set_option linter.all false
set_option maxRecDepth 100000
namespace Go.Ax
open Go.Proofs Go.Proofs.YtokecajedkojlaaGreat
open Go.ChangeShapes Go.WideShapes Go.ChangeAt Go.RowKit
theorem PV:ownKnob Tryz.prog.godebug = none:=by kernel_rfl
theorem Pq:laidOutB Tryz.prog = true:=by kernel_rfl
theorem Qi:(Tryz.prog.stops == []) = true:=by kernel_rfl
theorem Qq:(Tryz.prog.stopKnobs == []) = true:=by kernel_rfl
end Go.Ax
