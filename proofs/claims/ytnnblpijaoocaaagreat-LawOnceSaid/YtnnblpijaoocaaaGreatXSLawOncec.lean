import Derived.Test.YtnnblpijaoocaaaGreatXSLawOncea
import Derived.Test.YtnnblpijaoocaaaGreatXRLawOnce
/- The law LawOnce returns true for every input, and its arguments read afterwards as before. No condition. -/
set_option linter.all false
set_option maxRecDepth 100000
namespace Go.Proofs.YtnnblpijaoocaaaGreat
open Go.Ax Go.ChangeShapes Go.WideShapes Go.ChangeAt Go.RowKit
theorem Do:Rows.lawOnceRow.wf (OpenSpec.ofChange Rows.lawOnceSpec) = true:=by kernel_rfl
theorem C9:namedTie Tryz.prog Rows.lawOnceRow.named Rows.lawOnceSpec.vars = true:=by kernel_rfl
theorem BV:Tryz.pinned.checked.prog.funcNamed Rows.lawOnceRow.func = some 9:=by kernel_rfl
theorem x7:joinedFacts Tryz.prog 9 Tryz.f9 Rows.lawOnceSpec Rows.lawOnceRow = true :=
  Ii Do Py UN (by kernel_rfl) C9 (by kernel_rfl) Ux (by kernel_rfl) Uy DH Dj CI Dc (by kernel_rfl) (by kernel_rfl) (by kernel_rfl) (by kernel_rfl) (by kernel_rfl)
    (by kernel_rfl) (by kernel_rfl) (by kernel_rfl) (by kernel_rfl) (by kernel_rfl) (by kernel_rfl) Up UW (by rw [UG];rfl) (by rw [Uq];rfl) (by kernel_rfl) (by kernel_rfl) (by kernel_rfl) (by kernel_rfl)
theorem Ae:Tryz.f9.isInstance Tryz.pinned.checked.prog Rows.lawOnceRow.origin Rows.lawOnceRow.targs:=of_decide_eq_true (by kernel_rfl)
theorem law15_LawOnce_said:Rows.LawOnceSaid :=
  OpenClaim.holds_of_wide 9 Tryz.f9 rfl rfl rfl rfl rfl rfl rfl ⟨rfl,rfl,rfl,rfl,rfl⟩ rfl rfl rfl rfl rfl BV Tryz.func9 x7
    Ae (by unfold Func.isWrapper;first | (rw [if_pos (by decide +kernel)];kernel_rfl) | (rw [if_neg (by decide +kernel)];exact ⟨rfl,rfl⟩))
    (fun os started H enc _=>xH os started H enc)
#print axioms law15_LawOnce_said
end Go.Proofs.YtnnblpijaoocaaaGreat
