/- The law EarningsBase returns true for every input, and its arguments read afterwards as before. No condition. -/
import Derived.Test.YtchffdmfiffifaaSEarningsBaseb
set_option linter.all false
set_option maxRecDepth 100000
namespace Go.Proofs.Ytchffdmfiffifaa
open Go.Ax Go.ChangeShapes Go.WideShapes Go.ChangeAt Go.RowKit
theorem law19_EarningsBase_a1 : Rows.earningsBaseRow.wf (OpenSpec.ofChange Rows.earningsBaseSpec) = true := by kernel_rfl
theorem law19_EarningsBase_a5 : namedTie Try.prog Rows.earningsBaseRow.named Rows.earningsBaseSpec.vars = true := by kernel_rfl
theorem law19_EarningsBase_hfn : Try.pinned.checked.prog.funcNamed Rows.earningsBaseRow.func = some 7 := by kernel_rfl
theorem law19_EarningsBase_closed : joinedFacts Try.prog 7 Try.f7 Rows.earningsBaseSpec Rows.earningsBaseRow = true :=
  joined_mk law19_EarningsBase_a1 q_a2 q_a3 (by kernel_rfl) law19_EarningsBase_a5 (by kernel_rfl) q_a7 (by kernel_rfl) q_a9 law19_EarningsBase_b1 law19_EarningsBase_b2 law19_EarningsBase_b3 law19_EarningsBase_b4 (by kernel_rfl) (by kernel_rfl) (by kernel_rfl) (by kernel_rfl) (by kernel_rfl)
    (by kernel_rfl) (by kernel_rfl) (by kernel_rfl) (by kernel_rfl) (by kernel_rfl) (by kernel_rfl) q_c7 q_c8 (by rw [q_c9]; rfl) (by rw [q_d1]; rfl) (by kernel_rfl) (by kernel_rfl) (by kernel_rfl) (by kernel_rfl)
theorem law19_EarningsBase_inst : Try.f7.isInstance Try.pinned.checked.prog Rows.earningsBaseRow.origin Rows.earningsBaseRow.targs := of_decide_eq_true (by kernel_rfl)
theorem law19_EarningsBase_said : Rows.EarningsBaseSaid :=
  OpenClaim.holds_of_wide 7 Try.f7 rfl rfl rfl rfl rfl rfl rfl ⟨rfl, rfl, rfl, rfl, rfl⟩ rfl rfl rfl rfl rfl law19_EarningsBase_hfn Try.func7 law19_EarningsBase_closed
    law19_EarningsBase_inst (by unfold Func.isWrapper; first | (rw [if_pos (by decide +kernel)]; kernel_rfl) | (rw [if_neg (by decide +kernel)]; exact ⟨rfl, rfl⟩))
    (fun os started H enc _ => law19_EarningsBase_lifted os started H enc)
#print axioms law19_EarningsBase_said
end Go.Proofs.Ytchffdmfiffifaa
