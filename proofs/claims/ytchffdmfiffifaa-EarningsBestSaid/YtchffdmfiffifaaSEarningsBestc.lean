/- The law EarningsBest returns true for every input, and its arguments read afterwards as before. No condition. -/
import Derived.Test.YtchffdmfiffifaaSEarningsBestb
set_option linter.all false
set_option maxRecDepth 100000
namespace Go.Proofs.Ytchffdmfiffifaa
open Go.Ax Go.ChangeShapes Go.WideShapes Go.ChangeAt Go.RowKit
theorem law19_EarningsBest_a1 : Rows.earningsBestRow.wf (OpenSpec.ofChange Rows.earningsBestSpec) = true := by kernel_rfl
theorem law19_EarningsBest_a5 : namedTie Try.prog Rows.earningsBestRow.named Rows.earningsBestSpec.vars = true := by kernel_rfl
theorem law19_EarningsBest_hfn : Try.pinned.checked.prog.funcNamed Rows.earningsBestRow.func = some 10 := by kernel_rfl
theorem law19_EarningsBest_closed : joinedFacts Try.prog 10 Try.f10 Rows.earningsBestSpec Rows.earningsBestRow = true :=
  joined_mk law19_EarningsBest_a1 q_a2 q_a3 (by kernel_rfl) law19_EarningsBest_a5 (by kernel_rfl) q_a7 (by kernel_rfl) q_a9 law19_EarningsBest_b1 law19_EarningsBest_b2 law19_EarningsBest_b3 law19_EarningsBest_b4 (by kernel_rfl) (by kernel_rfl) (by kernel_rfl) (by kernel_rfl) (by kernel_rfl)
    (by kernel_rfl) (by kernel_rfl) (by kernel_rfl) (by kernel_rfl) (by kernel_rfl) (by kernel_rfl) q_c7 q_c8 (by rw [q_c9]; rfl) (by rw [q_d1]; rfl) (by kernel_rfl) (by kernel_rfl) (by kernel_rfl) (by kernel_rfl)
theorem law19_EarningsBest_inst : Try.f10.isInstance Try.pinned.checked.prog Rows.earningsBestRow.origin Rows.earningsBestRow.targs := of_decide_eq_true (by kernel_rfl)
theorem law19_EarningsBest_said : Rows.EarningsBestSaid :=
  OpenClaim.holds_of_wide 10 Try.f10 rfl rfl rfl rfl rfl rfl rfl ⟨rfl, rfl, rfl, rfl, rfl⟩ rfl rfl rfl rfl rfl law19_EarningsBest_hfn Try.func10 law19_EarningsBest_closed
    law19_EarningsBest_inst (by unfold Func.isWrapper; first | (rw [if_pos (by decide +kernel)]; kernel_rfl) | (rw [if_neg (by decide +kernel)]; exact ⟨rfl, rfl⟩))
    (fun os started H enc _ => law19_EarningsBest_lifted os started H enc)
#print axioms law19_EarningsBest_said
end Go.Proofs.Ytchffdmfiffifaa
