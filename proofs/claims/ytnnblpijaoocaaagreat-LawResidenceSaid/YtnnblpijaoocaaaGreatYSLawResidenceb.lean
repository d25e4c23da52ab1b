import Derived.Test.YtnnblpijaoocaaaGreatYQ1
/- The law LawResidence returns true for every input, and its arguments read afterwards as before. No condition. -/
set_option linter.all false
set_option maxRecDepth 100000
namespace Go.Proofs.YtnnblpijaoocaaaGreat
open Go.Ax Go.ChangeShapes Go.WideShapes Go.ChangeAt Go.RowKit
theorem sW:(Rows.lawResidenceRow.recurses == Tryz.prog.recurses 6) = true:=by kernel_rfl
theorem sI:(Rows.lawResidenceRow.named == Tryz.prog.varsNamed 6) = true:=by kernel_rfl
end Go.Proofs.YtnnblpijaoocaaaGreat
