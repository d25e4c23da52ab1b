import Derived.Test.YtokecajedkojlaaGreatZSEarningsOncea
import Derived.Test.YtokecajedkojlaaGreatZSEarningsOnceb
import Derived.Test.YtokecajedkojlaaGreatZREarningsOnce
/- The law EarningsOnce returns true for every input, and its arguments read afterwards as before. No condition. -/
set_option linter.all false
set_option maxRecDepth 100000
namespace Go.Proofs.YtokecajedkojlaaGreat
open Go.Ax Go.ChangeShapes Go.WideShapes Go.ChangeAt Go.RowKit
theorem xD:Rows.earningsOnceRow.wf (OpenSpec.ofChange Rows.earningsOnceSpec) = true:=by kernel_rfl
theorem xG:namedTie Tryz.prog Rows.earningsOnceRow.named Rows.earningsOnceSpec.vars = true:=by kernel_rfl
theorem wZ:Tryz.pinned.checked.prog.funcNamed Rows.earningsOnceRow.func = some 6:=by kernel_rfl
theorem tQ:joinedFacts Tryz.prog 6 Tryz.f6 Rows.earningsOnceSpec Rows.earningsOnceRow = true :=
  Sl xD Wr Xj (by kernel_rfl) xG (by kernel_rfl) Xk (by kernel_rfl) Xg xu xE xZ xR (by kernel_rfl) (by kernel_rfl) (by kernel_rfl) (by kernel_rfl) (by kernel_rfl)
    (by kernel_rfl) (by kernel_rfl) (by kernel_rfl) (by kernel_rfl) (by kernel_rfl) (by kernel_rfl) Xe W7 (by rw [Xb]; rfl) (by rw [W9]; rfl) (by kernel_rfl) (by kernel_rfl) (by kernel_rfl) (by kernel_rfl)
theorem vC:Tryz.f6.isInstance Tryz.pinned.checked.prog Rows.earningsOnceRow.origin Rows.earningsOnceRow.targs:=of_decide_eq_true (by kernel_rfl)
theorem law19_EarningsOnce_said:Rows.EarningsOnceSaid :=
  OpenClaim.holds_of_wide 6 Tryz.f6 rfl rfl rfl rfl rfl rfl rfl ⟨rfl,rfl,rfl,rfl,rfl⟩ rfl rfl rfl rfl rfl wZ Tryz.func6 tQ
    vC (by unfold Func.isWrapper; first | (rw [if_pos (by decide +kernel)]; kernel_rfl) | (rw [if_neg (by decide +kernel)]; exact ⟨rfl,rfl⟩))
    (fun os started H enc _=>tu os started H enc)
#print axioms law19_EarningsOnce_said
end Go.Proofs.YtokecajedkojlaaGreat
