import Derived.Test.YtbjfcadcipfolaaGreatZSFeedAddRejectsa
import Derived.Test.YtbjfcadcipfolaaGreatZSFeedAddRejectsb
import Derived.Test.YtbjfcadcipfolaaGreatZRFeedAddRejects
/- The law FeedAddRejects returns true for every input, and its arguments read afterwards as before. No condition. -/
set_option linter.all false
set_option maxRecDepth 100000
namespace Go.Proofs.YtbjfcadcipfolaaGreat
open Go.Ax Go.ChangeShapes Go.WideShapes Go.ChangeAt Go.RowKit
theorem ub:Rows.feedAddRejectsRow.wf (OpenSpec.ofChange Rows.feedAddRejectsSpec) = true:=by kernel_rfl
theorem uo:namedTie Tryz.prog Rows.feedAddRejectsRow.named Rows.feedAddRejectsSpec.vars = true:=by kernel_rfl
theorem tc:Tryz.pinned.checked.prog.funcNamed Rows.feedAddRejectsRow.func = some 9:=by kernel_rfl
theorem re:joinedFacts Tryz.prog 9 Tryz.f9 Rows.feedAddRejectsSpec Rows.feedAddRejectsRow = true :=
  kZ ub pi CO (by kernel_rfl) uo (by kernel_rfl) Cg (by kernel_rfl) CW ud uB ui uA (by kernel_rfl) (by kernel_rfl) (by kernel_rfl) (by kernel_rfl) (by kernel_rfl)
    (by kernel_rfl) (by kernel_rfl) (by kernel_rfl) (by kernel_rfl) (by kernel_rfl) (by kernel_rfl) BZ Cc (by rw [CJ];rfl) (by rw [CI];rfl) (by kernel_rfl) (by kernel_rfl) (by kernel_rfl) (by kernel_rfl)
theorem se:Tryz.f9.isInstance Tryz.pinned.checked.prog Rows.feedAddRejectsRow.origin Rows.feedAddRejectsRow.targs:=of_decide_eq_true (by kernel_rfl)
theorem law32_FeedAddRejects_said:Rows.FeedAddRejectsSaid :=
  OpenClaim.holds_of_wide 9 Tryz.f9 rfl rfl rfl rfl rfl rfl rfl ⟨rfl,rfl,rfl,rfl,rfl⟩ rfl rfl rfl rfl rfl tc Tryz.func9 re
    se (by unfold Func.isWrapper;first | (rw [if_pos (by decide +kernel)];kernel_rfl) | (rw [if_neg (by decide +kernel)];exact ⟨rfl,rfl⟩))
    (fun os started H enc _=>qM os started H enc)
#print axioms law32_FeedAddRejects_said
end Go.Proofs.YtbjfcadcipfolaaGreat
