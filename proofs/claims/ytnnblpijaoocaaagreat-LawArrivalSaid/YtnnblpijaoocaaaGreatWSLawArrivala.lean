import Derived.Test.YtnnblpijaoocaaaGreatWQ1
/- The law LawArrival returns true for every input, and its arguments read afterwards as before. No condition. -/
set_option linter.all false
set_option maxRecDepth 100000
namespace Go.Proofs.YtnnblpijaoocaaaGreat
open Go.Ax Go.ChangeShapes Go.WideShapes Go.ChangeAt Go.RowKit
theorem wN:(Rows.lawArrivalRow.inPlace == Tryz.prog.inPlace 10) = true:=by kernel_rfl
theorem wS:(Rows.lawArrivalRow.unfollowed == Tryz.prog.unfollowed 10) = true:=by kernel_rfl
end Go.Proofs.YtnnblpijaoocaaaGreat
/- The law LawArrival returns true for every input, and its arguments read afterwards as before. No condition. -/
set_option linter.all false
set_option maxRecDepth 100000
namespace Go.Proofs.YtnnblpijaoocaaaGreat
open Go.Ax Go.ChangeShapes Go.WideShapes Go.ChangeAt Go.RowKit
theorem wP:(Rows.lawArrivalRow.recurses == Tryz.prog.recurses 10) = true:=by kernel_rfl
theorem wX:(Rows.lawArrivalRow.named == Tryz.prog.varsNamed 10) = true:=by kernel_rfl
end Go.Proofs.YtnnblpijaoocaaaGreat
