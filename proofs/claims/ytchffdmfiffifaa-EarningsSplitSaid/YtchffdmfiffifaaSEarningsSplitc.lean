/- The law EarningsSplit returns true for every input, and its arguments read afterwards as before. No condition. -/
import Derived.Test.YtchffdmfiffifaaSEarningsSplitb
set_option maxRecDepth 100000
namespace Go.Proofs.Ytchffdmfiffifaa
open Go.Ax Go.ChangeShapes Go.WideShapes Go.ChangeAt Go.RowKit
theorem law19_EarningsSplit_a1 : Rows.earningsSplitRow.wf (OpenSpec.ofChange Rows.earningsSplitSpec) = true := by kernel_rfl
theorem law19_EarningsSplit_a5 : namedTie Try.prog Rows.earningsSplitRow.named Rows.earningsSplitSpec.vars = true := by kernel_rfl
theorem law19_EarningsSplit_hfn : Try.pinned.checked.prog.funcNamed Rows.earningsSplitRow.func = some 4 := by kernel_rfl
theorem law19_EarningsSplit_closed : joinedFacts Try.prog 4 Try.f4 Rows.earningsSplitSpec Rows.earningsSplitRow = true :=
  joined_mk law19_EarningsSplit_a1 q_a2 q_a3 (by kernel_rfl) law19_EarningsSplit_a5 (by kernel_rfl) q_a7 (by kernel_rfl) q_a9 law19_EarningsSplit_b1 law19_EarningsSplit_b2 law19_EarningsSplit_b3 law19_EarningsSplit_b4 (by kernel_rfl) (by kernel_rfl) (by kernel_rfl) (by kernel_rfl) (by kernel_rfl)
    (by kernel_rfl) (by kernel_rfl) (by kernel_rfl) (by kernel_rfl) (by kernel_rfl) (by kernel_rfl) q_c7 q_c8 (by rw [q_c9]; rfl) (by rw [q_d1]; rfl) (by kernel_rfl) (by kernel_rfl) (by kernel_rfl) (by kernel_rfl)
theorem law19_EarningsSplit_inst : Try.f4.isInstance Try.pinned.checked.prog Rows.earningsSplitRow.origin Rows.earningsSplitRow.targs := of_decide_eq_true (by kernel_rfl)
theorem law19_EarningsSplit_said : Rows.EarningsSplitSaid :=
  OpenClaim.holds_of_wide 4 Try.f4 rfl rfl rfl rfl rfl rfl rfl ⟨rfl, rfl, rfl, rfl, rfl⟩ rfl rfl rfl rfl rfl law19_EarningsSplit_hfn Try.func4 law19_EarningsSplit_closed
    law19_EarningsSplit_inst (by unfold Func.isWrapper; first | (rw [if_pos (by decide +kernel)]; kernel_rfl) | (rw [if_neg (by decide +kernel)]; exact ⟨rfl, rfl⟩))
    (fun os started H enc _ => law19_EarningsSplit_lifted os started H enc)
#print axioms law19_EarningsSplit_said
end Go.Proofs.Ytchffdmfiffifaa
