import Derived.Test.YtnnblpijaoocaaaGreatZSLawPostingsa
import Derived.Test.YtnnblpijaoocaaaGreatZSLawPostingsb
import Derived.Test.YtnnblpijaoocaaaGreatZRLawPostings
/- The law LawPostings returns true for every input, and its arguments read afterwards as before. No condition. -/
set_option linter.all false
set_option maxRecDepth 100000
namespace Go.Proofs.YtnnblpijaoocaaaGreat
open Go.Ax Go.ChangeShapes Go.WideShapes Go.ChangeAt Go.RowKit
theorem qj:Rows.lawPostingsRow.wf (OpenSpec.ofChange Rows.lawPostingsSpec) = true:=by kernel_rfl
theorem pA:namedTie Tryz.prog Rows.lawPostingsRow.named Rows.lawPostingsSpec.vars = true:=by kernel_rfl
theorem oH:Tryz.pinned.checked.prog.funcNamed Rows.lawPostingsRow.func = some 3:=by kernel_rfl
theorem mP:joinedFacts Tryz.prog 3 Tryz.f3 Rows.lawPostingsSpec Rows.lawPostingsRow = true :=
  Gf qj JS Lh (by kernel_rfl) pA (by kernel_rfl) K8 (by kernel_rfl) K2 qp qf pI qA (by kernel_rfl) (by kernel_rfl) (by kernel_rfl) (by kernel_rfl) (by kernel_rfl)
    (by kernel_rfl) (by kernel_rfl) (by kernel_rfl) (by kernel_rfl) (by kernel_rfl) (by kernel_rfl) Lf Lg (by rw [Li]; rfl) (by rw [K4]; rfl) (by kernel_rfl) (by kernel_rfl) (by kernel_rfl) (by kernel_rfl)
theorem oB:Tryz.f3.isInstance Tryz.pinned.checked.prog Rows.lawPostingsRow.origin Rows.lawPostingsRow.targs:=of_decide_eq_true (by kernel_rfl)
theorem law15_LawPostings_said:Rows.LawPostingsSaid :=
  OpenClaim.holds_of_wide 3 Tryz.f3 rfl rfl rfl rfl rfl rfl rfl ⟨rfl,rfl,rfl,rfl,rfl⟩ rfl rfl rfl rfl rfl oH Tryz.func3 mP
    oB (by unfold Func.isWrapper; first | (rw [if_pos (by decide +kernel)]; kernel_rfl) | (rw [if_neg (by decide +kernel)]; exact ⟨rfl,rfl⟩))
    (fun os started H enc _=>mA os started H enc)
#print axioms law15_LawPostings_said
end Go.Proofs.YtnnblpijaoocaaaGreat
