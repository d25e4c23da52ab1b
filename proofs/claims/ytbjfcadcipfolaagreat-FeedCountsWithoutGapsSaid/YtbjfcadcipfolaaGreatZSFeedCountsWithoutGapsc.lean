import Derived.Test.YtbjfcadcipfolaaGreatZSFeedCountsWithoutGapsa
import Derived.Test.YtbjfcadcipfolaaGreatZSFeedCountsWithoutGapsb
import Derived.Test.YtbjfcadcipfolaaGreatZRFeedCountsWithoutGaps
/- The law FeedCountsWithoutGaps returns true for every input, and its arguments read afterwards as before. No condition. -/
set_option linter.all false
set_option maxRecDepth 100000
namespace Go.Proofs.YtbjfcadcipfolaaGreat
open Go.Ax Go.ChangeShapes Go.WideShapes Go.ChangeAt Go.RowKit
theorem oH:Rows.feedCountsWithoutGapsRow.wf (OpenSpec.ofChange Rows.feedCountsWithoutGapsSpec) = true:=by kernel_rfl
theorem o7:namedTie Tryz.prog Rows.feedCountsWithoutGapsRow.named Rows.feedCountsWithoutGapsSpec.vars = true:=by kernel_rfl
theorem nR:Tryz.pinned.checked.prog.funcNamed Rows.feedCountsWithoutGapsRow.func = some 4:=by kernel_rfl
theorem mq:joinedFacts Tryz.prog 4 Tryz.f4 Rows.feedCountsWithoutGapsSpec Rows.feedCountsWithoutGapsRow = true :=
  kZ oH pi CO (by kernel_rfl) o7 (by kernel_rfl) Cg (by kernel_rfl) CW nS oT pj oU (by kernel_rfl) (by kernel_rfl) (by kernel_rfl) (by kernel_rfl) (by kernel_rfl)
    (by kernel_rfl) (by kernel_rfl) (by kernel_rfl) (by kernel_rfl) (by kernel_rfl) (by kernel_rfl) BZ Cc (by rw [CJ];rfl) (by rw [CI];rfl) (by kernel_rfl) (by kernel_rfl) (by kernel_rfl) (by kernel_rfl)
theorem mY:Tryz.f4.isInstance Tryz.pinned.checked.prog Rows.feedCountsWithoutGapsRow.origin Rows.feedCountsWithoutGapsRow.targs:=of_decide_eq_true (by kernel_rfl)
theorem law32_FeedCountsWithoutGaps_said:Rows.FeedCountsWithoutGapsSaid :=
  OpenClaim.holds_of_wide 4 Tryz.f4 rfl rfl rfl rfl rfl rfl rfl ⟨rfl,rfl,rfl,rfl,rfl⟩ rfl rfl rfl rfl rfl nR Tryz.func4 mq
    mY (by unfold Func.isWrapper;first | (rw [if_pos (by decide +kernel)];kernel_rfl) | (rw [if_neg (by decide +kernel)];exact ⟨rfl,rfl⟩))
    (fun os started H enc _=>ml os started H enc)
#print axioms law32_FeedCountsWithoutGaps_said
end Go.Proofs.YtbjfcadcipfolaaGreat
