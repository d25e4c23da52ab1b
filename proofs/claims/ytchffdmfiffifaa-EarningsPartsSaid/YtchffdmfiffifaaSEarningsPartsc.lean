/- The law EarningsParts returns true for every input, and its arguments read afterwards as before. No condition. -/
import Derived.Test.YtchffdmfiffifaaSEarningsPartsb
set_option maxRecDepth 100000
namespace Go.Proofs.Ytchffdmfiffifaa
open Go.Ax Go.ChangeShapes Go.WideShapes Go.ChangeAt Go.RowKit
theorem law19_EarningsParts_a1 : Rows.earningsPartsRow.wf (OpenSpec.ofChange Rows.earningsPartsSpec) = true := by kernel_rfl
theorem law19_EarningsParts_a5 : namedTie Try.prog Rows.earningsPartsRow.named Rows.earningsPartsSpec.vars = true := by kernel_rfl
theorem law19_EarningsParts_hfn : Try.pinned.checked.prog.funcNamed Rows.earningsPartsRow.func = some 3 := by kernel_rfl
theorem law19_EarningsParts_closed : joinedFacts Try.prog 3 Try.f3 Rows.earningsPartsSpec Rows.earningsPartsRow = true :=
  joined_mk law19_EarningsParts_a1 q_a2 q_a3 (by kernel_rfl) law19_EarningsParts_a5 (by kernel_rfl) q_a7 (by kernel_rfl) q_a9 law19_EarningsParts_b1 law19_EarningsParts_b2 law19_EarningsParts_b3 law19_EarningsParts_b4 (by kernel_rfl) (by kernel_rfl) (by kernel_rfl) (by kernel_rfl) (by kernel_rfl)
    (by kernel_rfl) (by kernel_rfl) (by kernel_rfl) (by kernel_rfl) (by kernel_rfl) (by kernel_rfl) q_c7 q_c8 (by rw [q_c9]; rfl) (by rw [q_d1]; rfl) (by kernel_rfl) (by kernel_rfl) (by kernel_rfl) (by kernel_rfl)
theorem law19_EarningsParts_inst : Try.f3.isInstance Try.pinned.checked.prog Rows.earningsPartsRow.origin Rows.earningsPartsRow.targs := of_decide_eq_true (by kernel_rfl)
theorem law19_EarningsParts_said : Rows.EarningsPartsSaid :=
  OpenClaim.holds_of_wide 3 Try.f3 rfl rfl rfl rfl rfl rfl rfl ⟨rfl, rfl, rfl, rfl, rfl⟩ rfl rfl rfl rfl rfl law19_EarningsParts_hfn Try.func3 law19_EarningsParts_closed
    law19_EarningsParts_inst (by unfold Func.isWrapper; first | (rw [if_pos (by decide +kernel)]; kernel_rfl) | (rw [if_neg (by decide +kernel)]; exact ⟨rfl, rfl⟩))
    (fun os started H enc _ => law19_EarningsParts_lifted os started H enc)
#print axioms law19_EarningsParts_said
end Go.Proofs.Ytchffdmfiffifaa
