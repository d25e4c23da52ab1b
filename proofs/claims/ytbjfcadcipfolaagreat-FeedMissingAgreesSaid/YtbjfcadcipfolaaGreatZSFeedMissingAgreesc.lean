import Derived.Test.YtbjfcadcipfolaaGreatZSFeedMissingAgreesa
import Derived.Test.YtbjfcadcipfolaaGreatZSFeedMissingAgreesb
import Derived.Test.YtbjfcadcipfolaaGreatZRFeedMissingAgrees
/- The law FeedMissingAgrees returns true for every input, and its arguments read afterwards as before. No condition. -/
set_option linter.all false
set_option maxRecDepth 100000
namespace Go.Proofs.YtbjfcadcipfolaaGreat
open Go.Ax Go.ChangeShapes Go.WideShapes Go.ChangeAt Go.RowKit
theorem rF:Rows.feedMissingAgreesRow.wf (OpenSpec.ofChange Rows.feedMissingAgreesSpec) = true:=by kernel_rfl
theorem rz:namedTie Tryz.prog Rows.feedMissingAgreesRow.named Rows.feedMissingAgreesSpec.vars = true:=by kernel_rfl
theorem qw:Tryz.pinned.checked.prog.funcNamed Rows.feedMissingAgreesRow.func = some 5:=by kernel_rfl
theorem oG:joinedFacts Tryz.prog 5 Tryz.f5 Rows.feedMissingAgreesSpec Rows.feedMissingAgreesRow = true :=
  kZ rF pi CO (by kernel_rfl) rz (by kernel_rfl) Cg (by kernel_rfl) CW rg rG rn ry (by kernel_rfl) (by kernel_rfl) (by kernel_rfl) (by kernel_rfl) (by kernel_rfl)
    (by kernel_rfl) (by kernel_rfl) (by kernel_rfl) (by kernel_rfl) (by kernel_rfl) (by kernel_rfl) BZ Cc (by rw [CJ];rfl) (by rw [CI];rfl) (by kernel_rfl) (by kernel_rfl) (by kernel_rfl) (by kernel_rfl)
theorem pS:Tryz.f5.isInstance Tryz.pinned.checked.prog Rows.feedMissingAgreesRow.origin Rows.feedMissingAgreesRow.targs:=of_decide_eq_true (by kernel_rfl)
theorem law32_FeedMissingAgrees_said:Rows.FeedMissingAgreesSaid :=
  OpenClaim.holds_of_wide 5 Tryz.f5 rfl rfl rfl rfl rfl rfl rfl ⟨rfl,rfl,rfl,rfl,rfl⟩ rfl rfl rfl rfl rfl qw Tryz.func5 oG
    pS (by unfold Func.isWrapper;first | (rw [if_pos (by decide +kernel)];kernel_rfl) | (rw [if_neg (by decide +kernel)];exact ⟨rfl,rfl⟩))
    (fun os started H enc _=>oR os started H enc)
#print axioms law32_FeedMissingAgrees_said
end Go.Proofs.YtbjfcadcipfolaaGreat
