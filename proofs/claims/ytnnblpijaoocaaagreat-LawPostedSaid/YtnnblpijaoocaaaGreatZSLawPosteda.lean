import Derived.Test.YtnnblpijaoocaaaGreatZQ1
/- The law LawPosted returns true for every input, and its arguments read afterwards as before. No condition. -/
set_option linter.all false
set_option maxRecDepth 100000
namespace Go.Proofs.YtnnblpijaoocaaaGreat
open Go.Ax Go.ChangeShapes Go.WideShapes Go.ChangeAt Go.RowKit
theorem Ad:(Rows.lawPostedRow.inPlace == Tryz.prog.inPlace 4) = true:=by kernel_rfl
theorem zW:(Rows.lawPostedRow.unfollowed == Tryz.prog.unfollowed 4) = true:=by kernel_rfl
end Go.Proofs.YtnnblpijaoocaaaGreat
/- The law LawPosted returns true for every input, and its arguments read afterwards as before. No condition. -/
set_option linter.all false
set_option maxRecDepth 100000
namespace Go.Proofs.YtnnblpijaoocaaaGreat
open Go.Ax Go.ChangeShapes Go.WideShapes Go.ChangeAt Go.RowKit
theorem zo:(Rows.lawPostedRow.recurses == Tryz.prog.recurses 4) = true:=by kernel_rfl
theorem yX:(Rows.lawPostedRow.named == Tryz.prog.varsNamed 4) = true:=by kernel_rfl
end Go.Proofs.YtnnblpijaoocaaaGreat
