/- The law TotalsCompute returns true for every input, and its arguments read afterwards as before. No condition. -/
import Derived.Test.YtkcekbabhmdnhaaSTotalsComputeb
set_option linter.all false
set_option maxRecDepth 100000
namespace Go.Proofs.Ytkcekbabhmdnhaa
open Go.Ax Go.ChangeShapes Go.WideShapes Go.ChangeAt Go.RowKit
theorem law18_TotalsCompute_a1 : Rows.totalsComputeRow.wf (OpenSpec.ofChange Rows.totalsComputeSpec) = true := by kernel_rfl
theorem law18_TotalsCompute_a5 : namedTie Try.prog Rows.totalsComputeRow.named Rows.totalsComputeSpec.vars = true := by kernel_rfl
theorem law18_TotalsCompute_hfn : Try.pinned.checked.prog.funcNamed Rows.totalsComputeRow.func = some 3 := by kernel_rfl
theorem law18_TotalsCompute_closed : joinedFacts Try.prog 3 Try.f3 Rows.totalsComputeSpec Rows.totalsComputeRow = true :=
  joined_mk law18_TotalsCompute_a1 q_a2 q_a3 (by kernel_rfl) law18_TotalsCompute_a5 (by kernel_rfl) q_a7 (by kernel_rfl) q_a9 law18_TotalsCompute_b1 law18_TotalsCompute_b2 law18_TotalsCompute_b3 law18_TotalsCompute_b4 (by kernel_rfl) (by kernel_rfl) (by kernel_rfl) (by kernel_rfl) (by kernel_rfl)
    (by kernel_rfl) (by kernel_rfl) (by kernel_rfl) (by kernel_rfl) (by kernel_rfl) (by kernel_rfl) q_c7 q_c8 (by rw [q_c9]; rfl) (by rw [q_d1]; rfl) (by kernel_rfl) (by kernel_rfl) (by kernel_rfl) (by kernel_rfl)
theorem law18_TotalsCompute_inst : Try.f3.isInstance Try.pinned.checked.prog Rows.totalsComputeRow.origin Rows.totalsComputeRow.targs := of_decide_eq_true (by kernel_rfl)
theorem law18_TotalsCompute_said : Rows.TotalsComputeSaid :=
  OpenClaim.holds_of_wide 3 Try.f3 rfl rfl rfl rfl rfl rfl rfl ⟨rfl, rfl, rfl, rfl, rfl⟩ rfl rfl rfl rfl rfl law18_TotalsCompute_hfn Try.func3 law18_TotalsCompute_closed
    law18_TotalsCompute_inst (by unfold Func.isWrapper; first | (rw [if_pos (by decide +kernel)]; kernel_rfl) | (rw [if_neg (by decide +kernel)]; exact ⟨rfl, rfl⟩))
    (fun os started H enc _ => law18_TotalsCompute_lifted os started H enc)
#print axioms law18_TotalsCompute_said
end Go.Proofs.Ytkcekbabhmdnhaa
