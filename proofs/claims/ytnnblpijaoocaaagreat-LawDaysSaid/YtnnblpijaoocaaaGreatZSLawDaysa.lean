import Derived.Test.YtnnblpijaoocaaaGreatZQ1
/- The law LawDays returns true for every input, and its arguments read afterwards as before. No condition. -/
set_option linter.all false
set_option maxRecDepth 100000
namespace Go.Proofs.YtnnblpijaoocaaaGreat
open Go.Ax Go.ChangeShapes Go.WideShapes Go.ChangeAt Go.RowKit
theorem CL:(Rows.lawDaysRow.inPlace == Tryz.prog.inPlace 5) = true:=by kernel_rfl
theorem Co:(Rows.lawDaysRow.unfollowed == Tryz.prog.unfollowed 5) = true:=by kernel_rfl
end Go.Proofs.YtnnblpijaoocaaaGreat
/- The law LawDays returns true for every input, and its arguments read afterwards as before. No condition. -/
set_option linter.all false
set_option maxRecDepth 100000
namespace Go.Proofs.YtnnblpijaoocaaaGreat
open Go.Ax Go.ChangeShapes Go.WideShapes Go.ChangeAt Go.RowKit
theorem Cq:(Rows.lawDaysRow.recurses == Tryz.prog.recurses 5) = true:=by kernel_rfl
theorem B4:(Rows.lawDaysRow.named == Tryz.prog.varsNamed 5) = true:=by kernel_rfl
end Go.Proofs.YtnnblpijaoocaaaGreat
