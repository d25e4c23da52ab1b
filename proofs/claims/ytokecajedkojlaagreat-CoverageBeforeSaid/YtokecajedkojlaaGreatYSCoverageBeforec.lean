import Derived.Test.YtokecajedkojlaaGreatYSCoverageBeforea
import Derived.Test.YtokecajedkojlaaGreatYSCoverageBeforeb
import Derived.Test.YtokecajedkojlaaGreatYRCoverageBefore
/- The law CoverageBefore returns true for every input, and its arguments read afterwards as before. No condition. -/
set_option linter.all false
set_option maxRecDepth 100000
namespace Go.Proofs.YtokecajedkojlaaGreat
open Go.Ax Go.ChangeShapes Go.WideShapes Go.ChangeAt Go.RowKit
theorem qX:Rows.coverageBeforeRow.wf (OpenSpec.ofChange Rows.coverageBeforeSpec) = true:=by kernel_rfl
theorem q5:namedTie Tryz.prog Rows.coverageBeforeRow.named Rows.coverageBeforeSpec.vars = true:=by kernel_rfl
theorem qL:Tryz.pinned.checked.prog.funcNamed Rows.coverageBeforeRow.func = some 4:=by kernel_rfl
theorem oB:joinedFacts Tryz.prog 4 Tryz.f4 Rows.coverageBeforeSpec Rows.coverageBeforeRow = true :=
  L6 qX OA PI (by kernel_rfl) q5 (by kernel_rfl) PE (by kernel_rfl) PK q7 qZ qY qU (by kernel_rfl) (by kernel_rfl) (by kernel_rfl) (by kernel_rfl) (by kernel_rfl)
    (by kernel_rfl) (by kernel_rfl) (by kernel_rfl) (by kernel_rfl) (by kernel_rfl) (by kernel_rfl) Px Py (by rw [PF]; rfl) (by rw [PD]; rfl) (by kernel_rfl) (by kernel_rfl) (by kernel_rfl) (by kernel_rfl)
theorem pu:Tryz.f4.isInstance Tryz.pinned.checked.prog Rows.coverageBeforeRow.origin Rows.coverageBeforeRow.targs:=of_decide_eq_true (by kernel_rfl)
theorem law16_CoverageBefore_said:Rows.CoverageBeforeSaid :=
  OpenClaim.holds_of_wide 4 Tryz.f4 rfl rfl rfl rfl rfl rfl rfl ⟨rfl,rfl,rfl,rfl,rfl⟩ rfl rfl rfl rfl rfl qL Tryz.func4 oB
    pu (by unfold Func.isWrapper; first | (rw [if_pos (by decide +kernel)]; kernel_rfl) | (rw [if_neg (by decide +kernel)]; exact ⟨rfl,rfl⟩))
    (fun os started H enc _=>oJ os started H enc)
#print axioms law16_CoverageBefore_said
end Go.Proofs.YtokecajedkojlaaGreat
