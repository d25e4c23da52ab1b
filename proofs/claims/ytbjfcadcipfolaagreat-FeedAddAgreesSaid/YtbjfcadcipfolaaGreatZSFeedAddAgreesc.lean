import Derived.Test.YtbjfcadcipfolaaGreatZSFeedAddAgreesa
import Derived.Test.YtbjfcadcipfolaaGreatZSFeedAddAgreesb
import Derived.Test.YtbjfcadcipfolaaGreatZRFeedAddAgrees
/- The law FeedAddAgrees returns true for every input, and its arguments read afterwards as before. No condition. -/
set_option linter.all false
set_option maxRecDepth 100000
namespace Go.Proofs.YtbjfcadcipfolaaGreat
open Go.Ax Go.ChangeShapes Go.WideShapes Go.ChangeAt Go.RowKit
theorem wg:Rows.feedAddAgreesRow.wf (OpenSpec.ofChange Rows.feedAddAgreesSpec) = true:=by kernel_rfl
theorem vA:namedTie Tryz.prog Rows.feedAddAgreesRow.named Rows.feedAddAgreesSpec.vars = true:=by kernel_rfl
theorem uf:Tryz.pinned.checked.prog.funcNamed Rows.feedAddAgreesRow.func = some 8:=by kernel_rfl
theorem rJ:joinedFacts Tryz.prog 8 Tryz.f8 Rows.feedAddAgreesSpec Rows.feedAddAgreesRow = true :=
  kZ wg pi CO (by kernel_rfl) vA (by kernel_rfl) Cg (by kernel_rfl) CW v7 vr v6 vZ (by kernel_rfl) (by kernel_rfl) (by kernel_rfl) (by kernel_rfl) (by kernel_rfl)
    (by kernel_rfl) (by kernel_rfl) (by kernel_rfl) (by kernel_rfl) (by kernel_rfl) (by kernel_rfl) BZ Cc (by rw [CJ];rfl) (by rw [CI];rfl) (by kernel_rfl) (by kernel_rfl) (by kernel_rfl) (by kernel_rfl)
theorem s8:Tryz.f8.isInstance Tryz.pinned.checked.prog Rows.feedAddAgreesRow.origin Rows.feedAddAgreesRow.targs:=of_decide_eq_true (by kernel_rfl)
theorem law32_FeedAddAgrees_said:Rows.FeedAddAgreesSaid :=
  OpenClaim.holds_of_wide 8 Tryz.f8 rfl rfl rfl rfl rfl rfl rfl ⟨rfl,rfl,rfl,rfl,rfl⟩ rfl rfl rfl rfl rfl uf Tryz.func8 rJ
    s8 (by unfold Func.isWrapper;first | (rw [if_pos (by decide +kernel)];kernel_rfl) | (rw [if_neg (by decide +kernel)];exact ⟨rfl,rfl⟩))
    (fun os started H enc _=>rx os started H enc)
#print axioms law32_FeedAddAgrees_said
end Go.Proofs.YtbjfcadcipfolaaGreat
