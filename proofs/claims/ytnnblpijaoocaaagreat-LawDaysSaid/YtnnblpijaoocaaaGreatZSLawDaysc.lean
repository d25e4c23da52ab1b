import Derived.Test.YtnnblpijaoocaaaGreatZSLawDaysa
import Derived.Test.YtnnblpijaoocaaaGreatZRLawDays
/- The law LawDays returns true for every input, and its arguments read afterwards as before. No condition. -/
set_option linter.all false
set_option maxRecDepth 100000
namespace Go.Proofs.YtnnblpijaoocaaaGreat
open Go.Ax Go.ChangeShapes Go.WideShapes Go.ChangeAt Go.RowKit
theorem Ce:Rows.lawDaysRow.wf (OpenSpec.ofChange Rows.lawDaysSpec) = true:=by kernel_rfl
theorem CI:namedTie Tryz.prog Rows.lawDaysRow.named Rows.lawDaysSpec.vars = true:=by kernel_rfl
theorem A8:Tryz.pinned.checked.prog.funcNamed Rows.lawDaysRow.func = some 5:=by kernel_rfl
theorem wq:joinedFacts Tryz.prog 5 Tryz.f5 Rows.lawDaysSpec Rows.lawDaysRow = true :=
  Hc Ce Ng S8 (by kernel_rfl) CI (by kernel_rfl) SX (by kernel_rfl) SV CL Co Cq B4 (by kernel_rfl) (by kernel_rfl) (by kernel_rfl) (by kernel_rfl) (by kernel_rfl)
    (by kernel_rfl) (by kernel_rfl) (by kernel_rfl) (by kernel_rfl) (by kernel_rfl) (by kernel_rfl) Th Tl (by rw [S5];rfl) (by rw [SR];rfl) (by kernel_rfl) (by kernel_rfl) (by kernel_rfl) (by kernel_rfl)
theorem Ae:Tryz.f5.isInstance Tryz.pinned.checked.prog Rows.lawDaysRow.origin Rows.lawDaysRow.targs:=of_decide_eq_true (by kernel_rfl)
theorem law15_LawDays_said:Rows.LawDaysSaid :=
  OpenClaim.holds_of_wide 5 Tryz.f5 rfl rfl rfl rfl rfl rfl rfl ⟨rfl,rfl,rfl,rfl,rfl⟩ rfl rfl rfl rfl rfl A8 Tryz.func5 wq
    Ae (by unfold Func.isWrapper;first | (rw [if_pos (by decide +kernel)];kernel_rfl) | (rw [if_neg (by decide +kernel)];exact ⟨rfl,rfl⟩))
    (fun os started H enc _=>wH os started H enc)
#print axioms law15_LawDays_said
end Go.Proofs.YtnnblpijaoocaaaGreat
