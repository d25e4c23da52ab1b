import Derived.Test.YtnnblpijaoocaaaGreatXQ1
/- The law LawOnce returns true for every input, and its arguments read afterwards as before. No condition. -/
set_option linter.all false
set_option maxRecDepth 100000
namespace Go.Proofs.YtnnblpijaoocaaaGreat
open Go.Ax Go.ChangeShapes Go.WideShapes Go.ChangeAt Go.RowKit
theorem DH:(Rows.lawOnceRow.inPlace == Tryz.prog.inPlace 9) = true:=by kernel_rfl
theorem Dj:(Rows.lawOnceRow.unfollowed == Tryz.prog.unfollowed 9) = true:=by kernel_rfl
end Go.Proofs.YtnnblpijaoocaaaGreat
/- The law LawOnce returns true for every input, and its arguments read afterwards as before. No condition. -/
set_option linter.all false
set_option maxRecDepth 100000
namespace Go.Proofs.YtnnblpijaoocaaaGreat
open Go.Ax Go.ChangeShapes Go.WideShapes Go.ChangeAt Go.RowKit
theorem CI:(Rows.lawOnceRow.recurses == Tryz.prog.recurses 9) = true:=by kernel_rfl
theorem Dc:(Rows.lawOnceRow.named == Tryz.prog.varsNamed 9) = true:=by kernel_rfl
end Go.Proofs.YtnnblpijaoocaaaGreat
