import Derived.Test.YtokecajedkojlaaGreatYQ1
/- Facts of the program that every row asks. -/
set_option linter.all false
set_option maxRecDepth 100000
namespace Go.Ax
open Go.Proofs Go.Proofs.YtokecajedkojlaaGreat
open Go.ChangeShapes Go.WideShapes Go.ChangeAt Go.RowKit
theorem PI:mapsRowed Tryz.prog = true:=by kernel_rfl
theorem Px:Tryz.prog.stopsHeard = true:=by kernel_rfl
end Go.Ax
