import Derived.Test.YtnnblpijaoocaaaGreatYSLawResidencea
import Derived.Test.YtnnblpijaoocaaaGreatYSLawResidenceb
import Derived.Test.YtnnblpijaoocaaaGreatYRLawResidence
/- The law LawResidence returns true for every input, and its arguments read afterwards as before. No condition. -/
set_option linter.all false
set_option maxRecDepth 100000
namespace Go.Proofs.YtnnblpijaoocaaaGreat
open Go.Ax Go.ChangeShapes Go.WideShapes Go.ChangeAt Go.RowKit
theorem tf:Rows.lawResidenceRow.wf (OpenSpec.ofChange Rows.lawResidenceSpec) = true:=by kernel_rfl
theorem ta:namedTie Tryz.prog Rows.lawResidenceRow.named Rows.lawResidenceSpec.vars = true:=by kernel_rfl
theorem rZ:Tryz.pinned.checked.prog.funcNamed Rows.lawResidenceRow.func = some 6:=by kernel_rfl
theorem oT:joinedFacts Tryz.prog 6 Tryz.f6 Rows.lawResidenceSpec Rows.lawResidenceRow = true :=
  LV tf P9 Rw (by kernel_rfl) ta (by kernel_rfl) Ro (by kernel_rfl) Rm sP s6 sW sI (by kernel_rfl) (by kernel_rfl) (by kernel_rfl) (by kernel_rfl) (by kernel_rfl)
    (by kernel_rfl) (by kernel_rfl) (by kernel_rfl) (by kernel_rfl) (by kernel_rfl) (by kernel_rfl) RD Rv (by rw [RB]; rfl) (by rw [RA]; rfl) (by kernel_rfl) (by kernel_rfl) (by kernel_rfl) (by kernel_rfl)
theorem qB:Tryz.f6.isInstance Tryz.pinned.checked.prog Rows.lawResidenceRow.origin Rows.lawResidenceRow.targs:=of_decide_eq_true (by kernel_rfl)
theorem law15_LawResidence_said:Rows.LawResidenceSaid :=
  OpenClaim.holds_of_wide 6 Tryz.f6 rfl rfl rfl rfl rfl rfl rfl ⟨rfl,rfl,rfl,rfl,rfl⟩ rfl rfl rfl rfl rfl rZ Tryz.func6 oT
    qB (by unfold Func.isWrapper; first | (rw [if_pos (by decide +kernel)]; kernel_rfl) | (rw [if_neg (by decide +kernel)]; exact ⟨rfl,rfl⟩))
    (fun os started H enc _=>o9 os started H enc)
#print axioms law15_LawResidence_said
end Go.Proofs.YtnnblpijaoocaaaGreat
