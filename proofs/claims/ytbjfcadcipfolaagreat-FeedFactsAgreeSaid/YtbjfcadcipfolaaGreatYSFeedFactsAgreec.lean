import Derived.Test.YtbjfcadcipfolaaGreatYSFeedFactsAgreea
import Derived.Test.YtbjfcadcipfolaaGreatYSFeedFactsAgreeb
import Derived.Test.YtbjfcadcipfolaaGreatYRFeedFactsAgree
/- The law FeedFactsAgree returns true for every input, and its arguments read afterwards as before. No condition. -/
set_option linter.all false
set_option maxRecDepth 100000
namespace Go.Proofs.YtbjfcadcipfolaaGreat
open Go.Ax Go.ChangeShapes Go.WideShapes Go.ChangeAt Go.RowKit
theorem tz:Rows.feedFactsAgreeRow.wf (OpenSpec.ofChange Rows.feedFactsAgreeSpec) = true:=by kernel_rfl
theorem tw:namedTie Tryz.prog Rows.feedFactsAgreeRow.named Rows.feedFactsAgreeSpec.vars = true:=by kernel_rfl
theorem sw:Tryz.pinned.checked.prog.funcNamed Rows.feedFactsAgreeRow.func = some 10:=by kernel_rfl
theorem qu:joinedFacts Tryz.prog 10 Tryz.f10 Rows.feedFactsAgreeSpec Rows.feedFactsAgreeRow = true :=
  FT tz LJ Re (by kernel_rfl) tw (by kernel_rfl) QK (by kernel_rfl) Rm tF tD tx tA (by kernel_rfl) (by kernel_rfl) (by kernel_rfl) (by kernel_rfl) (by kernel_rfl)
    (by kernel_rfl) (by kernel_rfl) (by kernel_rfl) (by kernel_rfl) (by kernel_rfl) (by kernel_rfl) QI Rf (by rw [Rb];rfl) (by rw [QZ];rfl) (by kernel_rfl) (by kernel_rfl) (by kernel_rfl) (by kernel_rfl)
theorem rD:Tryz.f10.isInstance Tryz.pinned.checked.prog Rows.feedFactsAgreeRow.origin Rows.feedFactsAgreeRow.targs:=of_decide_eq_true (by kernel_rfl)
theorem law32_FeedFactsAgree_said:Rows.FeedFactsAgreeSaid :=
  OpenClaim.holds_of_wide 10 Tryz.f10 rfl rfl rfl rfl rfl rfl rfl ⟨rfl,rfl,rfl,rfl,rfl⟩ rfl rfl rfl rfl rfl sw Tryz.func10 qu
    rD (by unfold Func.isWrapper;first | (rw [if_pos (by decide +kernel)];kernel_rfl) | (rw [if_neg (by decide +kernel)];exact ⟨rfl,rfl⟩))
    (fun os started H enc _=>qb os started H enc)
#print axioms law32_FeedFactsAgree_said
end Go.Proofs.YtbjfcadcipfolaaGreat
