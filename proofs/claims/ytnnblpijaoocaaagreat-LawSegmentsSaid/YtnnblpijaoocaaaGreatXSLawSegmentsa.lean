import Derived.Test.YtnnblpijaoocaaaGreatXQ1
/- The law LawSegments returns true for every input, and its arguments read afterwards as before. No condition. -/
set_option linter.all false
set_option maxRecDepth 100000
namespace Go.Proofs.YtnnblpijaoocaaaGreat
open Go.Ax Go.ChangeShapes Go.WideShapes Go.ChangeAt Go.RowKit
theorem xU:(Rows.lawSegmentsRow.inPlace == Tryz.prog.inPlace 8) = true:=by kernel_rfl
theorem wQ:(Rows.lawSegmentsRow.unfollowed == Tryz.prog.unfollowed 8) = true:=by kernel_rfl
end Go.Proofs.YtnnblpijaoocaaaGreat
/- The law LawSegments returns true for every input, and its arguments read afterwards as before. No condition. -/
set_option linter.all false
set_option maxRecDepth 100000
namespace Go.Proofs.YtnnblpijaoocaaaGreat
open Go.Ax Go.ChangeShapes Go.WideShapes Go.ChangeAt Go.RowKit
theorem xK:(Rows.lawSegmentsRow.recurses == Tryz.prog.recurses 8) = true:=by kernel_rfl
theorem xC:(Rows.lawSegmentsRow.named == Tryz.prog.varsNamed 8) = true:=by kernel_rfl
end Go.Proofs.YtnnblpijaoocaaaGreat
