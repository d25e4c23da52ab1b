import Derived.Test.YtnnblpijaoocaaaGreatZQ1
/- The law LawPostings returns true for every input, and its arguments read afterwards as before. No condition. -/
set_option linter.all false
set_option maxRecDepth 100000
namespace Go.Proofs.YtnnblpijaoocaaaGreat
open Go.Ax Go.ChangeShapes Go.WideShapes Go.ChangeAt Go.RowKit
theorem qp:(Rows.lawPostingsRow.inPlace == Tryz.prog.inPlace 3) = true:=by kernel_rfl
theorem qf:(Rows.lawPostingsRow.unfollowed == Tryz.prog.unfollowed 3) = true:=by kernel_rfl
end Go.Proofs.YtnnblpijaoocaaaGreat
