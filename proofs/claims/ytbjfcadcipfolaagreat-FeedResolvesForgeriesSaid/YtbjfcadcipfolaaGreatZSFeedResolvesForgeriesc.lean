import Derived.Test.YtbjfcadcipfolaaGreatZSFeedResolvesForgeriesa
import Derived.Test.YtbjfcadcipfolaaGreatZSFeedResolvesForgeriesb
import Derived.Test.YtbjfcadcipfolaaGreatZRFeedResolvesForgeries
/- The law FeedResolvesForgeries returns true for every input, and its arguments read afterwards as before. No condition. -/
set_option linter.all false
set_option maxRecDepth 100000
namespace Go.Proofs.YtbjfcadcipfolaaGreat
open Go.Ax Go.ChangeShapes Go.WideShapes Go.ChangeAt Go.RowKit
theorem o8:Rows.feedResolvesForgeriesRow.wf (OpenSpec.ofChange Rows.feedResolvesForgeriesSpec) = true:=by kernel_rfl
theorem oa:namedTie Tryz.prog Rows.feedResolvesForgeriesRow.named Rows.feedResolvesForgeriesSpec.vars = true:=by kernel_rfl
theorem nQ:Tryz.pinned.checked.prog.funcNamed Rows.feedResolvesForgeriesRow.func = some 6:=by kernel_rfl
theorem mn:joinedFacts Tryz.prog 6 Tryz.f6 Rows.feedResolvesForgeriesSpec Rows.feedResolvesForgeriesRow = true :=
  kZ o8 pi CO (by kernel_rfl) oa (by kernel_rfl) Cg (by kernel_rfl) CW pk oy n9 oI (by kernel_rfl) (by kernel_rfl) (by kernel_rfl) (by kernel_rfl) (by kernel_rfl)
    (by kernel_rfl) (by kernel_rfl) (by kernel_rfl) (by kernel_rfl) (by kernel_rfl) (by kernel_rfl) BZ Cc (by rw [CJ];rfl) (by rw [CI];rfl) (by kernel_rfl) (by kernel_rfl) (by kernel_rfl) (by kernel_rfl)
theorem m8:Tryz.f6.isInstance Tryz.pinned.checked.prog Rows.feedResolvesForgeriesRow.origin Rows.feedResolvesForgeriesRow.targs:=of_decide_eq_true (by kernel_rfl)
theorem law32_FeedResolvesForgeries_said:Rows.FeedResolvesForgeriesSaid :=
  OpenClaim.holds_of_wide 6 Tryz.f6 rfl rfl rfl rfl rfl rfl rfl ⟨rfl,rfl,rfl,rfl,rfl⟩ rfl rfl rfl rfl rfl nQ Tryz.func6 mn
    m8 (by unfold Func.isWrapper;first | (rw [if_pos (by decide +kernel)];kernel_rfl) | (rw [if_neg (by decide +kernel)];exact ⟨rfl,rfl⟩))
    (fun os started H enc _=>mr os started H enc)
#print axioms law32_FeedResolvesForgeries_said
end Go.Proofs.YtbjfcadcipfolaaGreat
