import Derived.Test.YtbjfcadcipfolaaGreatZSFeedGetAgreesa
import Derived.Test.YtbjfcadcipfolaaGreatZSFeedGetAgreesb
import Derived.Test.YtbjfcadcipfolaaGreatZRFeedGetAgrees
/- The law FeedGetAgrees returns true for every input, and its arguments read afterwards as before. No condition. -/
set_option linter.all false
set_option maxRecDepth 100000
namespace Go.Proofs.YtbjfcadcipfolaaGreat
open Go.Ax Go.ChangeShapes Go.WideShapes Go.ChangeAt Go.RowKit
theorem v8:Rows.feedGetAgreesRow.wf (OpenSpec.ofChange Rows.feedGetAgreesSpec) = true:=by kernel_rfl
theorem vK:namedTie Tryz.prog Rows.feedGetAgreesRow.named Rows.feedGetAgreesSpec.vars = true:=by kernel_rfl
theorem ut:Tryz.pinned.checked.prog.funcNamed Rows.feedGetAgreesRow.func = some 3:=by kernel_rfl
theorem rH:joinedFacts Tryz.prog 3 Tryz.f3 Rows.feedGetAgreesSpec Rows.feedGetAgreesRow = true :=
  kZ v8 pi CO (by kernel_rfl) vK (by kernel_rfl) Cg (by kernel_rfl) CW wj vW vN vB (by kernel_rfl) (by kernel_rfl) (by kernel_rfl) (by kernel_rfl) (by kernel_rfl)
    (by kernel_rfl) (by kernel_rfl) (by kernel_rfl) (by kernel_rfl) (by kernel_rfl) (by kernel_rfl) BZ Cc (by rw [CJ];rfl) (by rw [CI];rfl) (by kernel_rfl) (by kernel_rfl) (by kernel_rfl) (by kernel_rfl)
theorem tz:Tryz.f3.isInstance Tryz.pinned.checked.prog Rows.feedGetAgreesRow.origin Rows.feedGetAgreesRow.targs:=of_decide_eq_true (by kernel_rfl)
theorem law32_FeedGetAgrees_said:Rows.FeedGetAgreesSaid :=
  OpenClaim.holds_of_wide 3 Tryz.f3 rfl rfl rfl rfl rfl rfl rfl ⟨rfl,rfl,rfl,rfl,rfl⟩ rfl rfl rfl rfl rfl ut Tryz.func3 rH
    tz (by unfold Func.isWrapper;first | (rw [if_pos (by decide +kernel)];kernel_rfl) | (rw [if_neg (by decide +kernel)];exact ⟨rfl,rfl⟩))
    (fun os started H enc _=>rA os started H enc)
#print axioms law32_FeedGetAgrees_said
end Go.Proofs.YtbjfcadcipfolaaGreat
