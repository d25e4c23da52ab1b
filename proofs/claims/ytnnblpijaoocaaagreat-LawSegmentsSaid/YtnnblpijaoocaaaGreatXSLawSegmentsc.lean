import Derived.Test.YtnnblpijaoocaaaGreatXSLawSegmentsa
import Derived.Test.YtnnblpijaoocaaaGreatXRLawSegments
/- The law LawSegments returns true for every input, and its arguments read afterwards as before. No condition. -/
set_option linter.all false
set_option maxRecDepth 100000
namespace Go.Proofs.YtnnblpijaoocaaaGreat
open Go.Ax Go.ChangeShapes Go.WideShapes Go.ChangeAt Go.RowKit
theorem xo:Rows.lawSegmentsRow.wf (OpenSpec.ofChange Rows.lawSegmentsSpec) = true:=by kernel_rfl
theorem xJ:namedTie Tryz.prog Rows.lawSegmentsRow.named Rows.lawSegmentsSpec.vars = true:=by kernel_rfl
theorem vZ:Tryz.pinned.checked.prog.funcNamed Rows.lawSegmentsRow.func = some 8:=by kernel_rfl
theorem th:joinedFacts Tryz.prog 8 Tryz.f8 Rows.lawSegmentsSpec Rows.lawSegmentsRow = true :=
  Ii xo Py UN (by kernel_rfl) xJ (by kernel_rfl) Ux (by kernel_rfl) Uy xU wQ xK xC (by kernel_rfl) (by kernel_rfl) (by kernel_rfl) (by kernel_rfl) (by kernel_rfl)
    (by kernel_rfl) (by kernel_rfl) (by kernel_rfl) (by kernel_rfl) (by kernel_rfl) (by kernel_rfl) Up UW (by rw [UG];rfl) (by rw [Uq];rfl) (by kernel_rfl) (by kernel_rfl) (by kernel_rfl) (by kernel_rfl)
theorem vJ:Tryz.f8.isInstance Tryz.pinned.checked.prog Rows.lawSegmentsRow.origin Rows.lawSegmentsRow.targs:=of_decide_eq_true (by kernel_rfl)
theorem law15_LawSegments_said:Rows.LawSegmentsSaid :=
  OpenClaim.holds_of_wide 8 Tryz.f8 rfl rfl rfl rfl rfl rfl rfl ⟨rfl,rfl,rfl,rfl,rfl⟩ rfl rfl rfl rfl rfl vZ Tryz.func8 th
    vJ (by unfold Func.isWrapper;first | (rw [if_pos (by decide +kernel)];kernel_rfl) | (rw [if_neg (by decide +kernel)];exact ⟨rfl,rfl⟩))
    (fun os started H enc _=>sO os started H enc)
#print axioms law15_LawSegments_said
end Go.Proofs.YtnnblpijaoocaaaGreat
