import Derived.Test.YtnnblpijaoocaaaGreatZQ1
/- The law LawUnder returns true for every input, and its arguments read afterwards as before. No condition. -/
set_option linter.all false
set_option maxRecDepth 100000
namespace Go.Proofs.YtnnblpijaoocaaaGreat
open Go.Ax Go.ChangeShapes Go.WideShapes Go.ChangeAt Go.RowKit
theorem xp:(Rows.lawUnderRow.recurses == Tryz.prog.recurses 7) = true:=by kernel_rfl
theorem xI:(Rows.lawUnderRow.named == Tryz.prog.varsNamed 7) = true:=by kernel_rfl
end Go.Proofs.YtnnblpijaoocaaaGreat
