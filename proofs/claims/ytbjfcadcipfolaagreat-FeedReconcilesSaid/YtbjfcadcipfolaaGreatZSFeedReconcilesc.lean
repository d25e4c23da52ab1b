import Derived.Test.YtbjfcadcipfolaaGreatZSFeedReconcilesa
import Derived.Test.YtbjfcadcipfolaaGreatZSFeedReconcilesb
import Derived.Test.YtbjfcadcipfolaaGreatZRFeedReconciles
/- The law FeedReconciles returns true for every input, and its arguments read afterwards as before. No condition. -/
set_option linter.all false
set_option maxRecDepth 100000
namespace Go.Proofs.YtbjfcadcipfolaaGreat
open Go.Ax Go.ChangeShapes Go.WideShapes Go.ChangeAt Go.RowKit
theorem uD:Rows.feedReconcilesRow.wf (OpenSpec.ofChange Rows.feedReconcilesSpec) = true:=by kernel_rfl
theorem uy:namedTie Tryz.prog Rows.feedReconcilesRow.named Rows.feedReconcilesSpec.vars = true:=by kernel_rfl
theorem sY:Tryz.pinned.checked.prog.funcNamed Rows.feedReconcilesRow.func = some 7:=by kernel_rfl
theorem qN:joinedFacts Tryz.prog 7 Tryz.f7 Rows.feedReconcilesSpec Rows.feedReconcilesRow = true :=
  kZ uD pi CO (by kernel_rfl) uy (by kernel_rfl) Cg (by kernel_rfl) CW ua uv ug uc (by kernel_rfl) (by kernel_rfl) (by kernel_rfl) (by kernel_rfl) (by kernel_rfl)
    (by kernel_rfl) (by kernel_rfl) (by kernel_rfl) (by kernel_rfl) (by kernel_rfl) (by kernel_rfl) BZ Cc (by rw [CJ];rfl) (by rw [CI];rfl) (by kernel_rfl) (by kernel_rfl) (by kernel_rfl) (by kernel_rfl)
theorem sH:Tryz.f7.isInstance Tryz.pinned.checked.prog Rows.feedReconcilesRow.origin Rows.feedReconcilesRow.targs:=of_decide_eq_true (by kernel_rfl)
theorem law32_FeedReconciles_said:Rows.FeedReconcilesSaid :=
  OpenClaim.holds_of_wide 7 Tryz.f7 rfl rfl rfl rfl rfl rfl rfl ⟨rfl,rfl,rfl,rfl,rfl⟩ rfl rfl rfl rfl rfl sY Tryz.func7 qN
    sH (by unfold Func.isWrapper;first | (rw [if_pos (by decide +kernel)];kernel_rfl) | (rw [if_neg (by decide +kernel)];exact ⟨rfl,rfl⟩))
    (fun os started H enc _=>rb os started H enc)
#print axioms law32_FeedReconciles_said
end Go.Proofs.YtbjfcadcipfolaaGreat
