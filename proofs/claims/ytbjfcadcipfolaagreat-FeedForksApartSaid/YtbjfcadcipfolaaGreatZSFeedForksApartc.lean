import Derived.Test.YtbjfcadcipfolaaGreatZSFeedForksAparta
import Derived.Test.YtbjfcadcipfolaaGreatZSFeedForksApartb
import Derived.Test.YtbjfcadcipfolaaGreatZRFeedForksApart
/- The law FeedForksApart returns true for every input, and its arguments read afterwards as before. No condition. -/
set_option linter.all false
set_option maxRecDepth 100000
namespace Go.Proofs.YtbjfcadcipfolaaGreat
open Go.Ax Go.ChangeShapes Go.WideShapes Go.ChangeAt Go.RowKit
theorem qm:Rows.feedForksApartRow.wf (OpenSpec.ofChange Rows.feedForksApartSpec) = true:=by kernel_rfl
theorem qx:namedTie Tryz.prog Rows.feedForksApartRow.named Rows.feedForksApartSpec.vars = true:=by kernel_rfl
theorem p5:Tryz.pinned.checked.prog.funcNamed Rows.feedForksApartRow.func = some 11:=by kernel_rfl
theorem oa:joinedFacts Tryz.prog 11 Tryz.f11 Rows.feedForksApartSpec Rows.feedForksApartRow = true :=
  J5 qm M8 NV (by kernel_rfl) qx (by kernel_rfl) NG (by kernel_rfl) NX qs qr qk ql (by kernel_rfl) (by kernel_rfl) (by kernel_rfl) (by kernel_rfl) (by kernel_rfl)
    (by kernel_rfl) (by kernel_rfl) (by kernel_rfl) (by kernel_rfl) (by kernel_rfl) (by kernel_rfl) NS NW (by rw [NP];rfl) (by rw [NR];rfl) (by kernel_rfl) (by kernel_rfl) (by kernel_rfl) (by kernel_rfl)
theorem o9:Tryz.f11.isInstance Tryz.pinned.checked.prog Rows.feedForksApartRow.origin Rows.feedForksApartRow.targs:=of_decide_eq_true (by kernel_rfl)
theorem law32_FeedForksApart_said:Rows.FeedForksApartSaid :=
  OpenClaim.holds_of_wide 11 Tryz.f11 rfl rfl rfl rfl rfl rfl rfl ⟨rfl,rfl,rfl,rfl,rfl⟩ rfl rfl rfl rfl rfl p5 Tryz.func11 oa
    o9 (by unfold Func.isWrapper;first | (rw [if_pos (by decide +kernel)];kernel_rfl) | (rw [if_neg (by decide +kernel)];exact ⟨rfl,rfl⟩))
    (fun os started H enc _=>od os started H enc)
#print axioms law32_FeedForksApart_said
end Go.Proofs.YtbjfcadcipfolaaGreat
