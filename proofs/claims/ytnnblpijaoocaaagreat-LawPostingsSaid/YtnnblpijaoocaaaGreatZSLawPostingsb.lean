import Derived.Test.YtnnblpijaoocaaaGreatZQ1
/- The law LawPostings returns true for every input, and its arguments read afterwards as before. No condition. -/
set_option linter.all false
set_option maxRecDepth 100000
namespace Go.Proofs.YtnnblpijaoocaaaGreat
open Go.Ax Go.ChangeShapes Go.WideShapes Go.ChangeAt Go.RowKit
theorem pI:(Rows.lawPostingsRow.recurses == Tryz.prog.recurses 3) = true:=by kernel_rfl
theorem qA:(Rows.lawPostingsRow.named == Tryz.prog.varsNamed 3) = true:=by kernel_rfl
end Go.Proofs.YtnnblpijaoocaaaGreat
