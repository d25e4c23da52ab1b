import Derived.Test.YtbjfcadcipfolaaGreatYSFeedIgnoresOrdera
import Derived.Test.YtbjfcadcipfolaaGreatYSFeedIgnoresOrderb
import Derived.Test.YtbjfcadcipfolaaGreatYRFeedIgnoresOrder
/- The law FeedIgnoresOrder returns true for every input, and its arguments read afterwards as before. No condition. -/
set_option linter.all false
set_option maxRecDepth 100000
namespace Go.Proofs.YtbjfcadcipfolaaGreat
open Go.Ax Go.ChangeShapes Go.WideShapes Go.ChangeAt Go.RowKit
theorem rR:Rows.feedIgnoresOrderRow.wf (OpenSpec.ofChange Rows.feedIgnoresOrderSpec) = true:=by kernel_rfl
theorem rF:namedTie Tryz.prog Rows.feedIgnoresOrderRow.named Rows.feedIgnoresOrderSpec.vars = true:=by kernel_rfl
theorem qG:Tryz.pinned.checked.prog.funcNamed Rows.feedIgnoresOrderRow.func = some 12:=by kernel_rfl
theorem oJ:joinedFacts Tryz.prog 12 Tryz.f12 Rows.feedIgnoresOrderSpec Rows.feedIgnoresOrderRow = true :=
  FT rR LJ Re (by kernel_rfl) rF (by kernel_rfl) QK (by kernel_rfl) Rm rU rT rG q9 (by kernel_rfl) (by kernel_rfl) (by kernel_rfl) (by kernel_rfl) (by kernel_rfl)
    (by kernel_rfl) (by kernel_rfl) (by kernel_rfl) (by kernel_rfl) (by kernel_rfl) (by kernel_rfl) QI Rf (by rw [Rb];rfl) (by rw [QZ];rfl) (by kernel_rfl) (by kernel_rfl) (by kernel_rfl) (by kernel_rfl)
theorem qF:Tryz.f12.isInstance Tryz.pinned.checked.prog Rows.feedIgnoresOrderRow.origin Rows.feedIgnoresOrderRow.targs:=of_decide_eq_true (by kernel_rfl)
theorem law32_FeedIgnoresOrder_said:Rows.FeedIgnoresOrderSaid :=
  OpenClaim.holds_of_wide 12 Tryz.f12 rfl rfl rfl rfl rfl rfl rfl ⟨rfl,rfl,rfl,rfl,rfl⟩ rfl rfl rfl rfl rfl qG Tryz.func12 oJ
    qF (by unfold Func.isWrapper;first | (rw [if_pos (by decide +kernel)];kernel_rfl) | (rw [if_neg (by decide +kernel)];exact ⟨rfl,rfl⟩))
    (fun os started H enc _=>oI os started H enc)
#print axioms law32_FeedIgnoresOrder_said
end Go.Proofs.YtbjfcadcipfolaaGreat
