import Derived.Test.YtgamnldjlncdlaaGreatZQ1
/- Facts of the program that every row asks. -/
set_option linter.all false
set_option maxRecDepth 100000
namespace Go.Ax
open Go.Proofs Go.Proofs.YtgamnldjlncdlaaGreat
open Go.ChangeShapes Go.WideShapes Go.ChangeAt Go.RowKit
theorem aoD:mapsRowed Tryz.prog = true:=by kernel_rfl
theorem aoz:Tryz.prog.stopsHeard = true:=by kernel_rfl
end Go.Ax
