/- The law CareerMerges returns true for every input, and its arguments read afterwards as before. No condition. -/
import Derived.Test.YtchffdmfiffifaaSCareerMergesb
set_option maxRecDepth 100000
namespace Go.Proofs.Ytchffdmfiffifaa
open Go.Ax Go.ChangeShapes Go.WideShapes Go.ChangeAt Go.RowKit
theorem law13_CareerMerges_a1 : Rows.careerMergesRow.wf (OpenSpec.ofChange Rows.careerMergesSpec) = true := by kernel_rfl
theorem law13_CareerMerges_a5 : namedTie Try.prog Rows.careerMergesRow.named Rows.careerMergesSpec.vars = true := by kernel_rfl
theorem law13_CareerMerges_hfn : Try.pinned.checked.prog.funcNamed Rows.careerMergesRow.func = some 8 := by kernel_rfl
theorem law13_CareerMerges_closed : joinedFacts Try.prog 8 Try.f8 Rows.careerMergesSpec Rows.careerMergesRow = true :=
  joined_mk law13_CareerMerges_a1 q_a2 q_a3 (by kernel_rfl) law13_CareerMerges_a5 (by kernel_rfl) q_a7 (by kernel_rfl) q_a9 law13_CareerMerges_b1 law13_CareerMerges_b2 law13_CareerMerges_b3 law13_CareerMerges_b4 (by kernel_rfl) (by kernel_rfl) (by kernel_rfl) (by kernel_rfl) (by kernel_rfl)
    (by kernel_rfl) (by kernel_rfl) (by kernel_rfl) (by kernel_rfl) (by kernel_rfl) (by kernel_rfl) q_c7 q_c8 (by rw [q_c9]; rfl) (by rw [q_d1]; rfl) (by kernel_rfl) (by kernel_rfl) (by kernel_rfl) (by kernel_rfl)
theorem law13_CareerMerges_inst : Try.f8.isInstance Try.pinned.checked.prog Rows.careerMergesRow.origin Rows.careerMergesRow.targs := of_decide_eq_true (by kernel_rfl)
theorem law13_CareerMerges_said : Rows.CareerMergesSaid :=
  OpenClaim.holds_of_wide 8 Try.f8 rfl rfl rfl rfl rfl rfl rfl ⟨rfl, rfl, rfl, rfl, rfl⟩ rfl rfl rfl rfl rfl law13_CareerMerges_hfn Try.func8 law13_CareerMerges_closed
    law13_CareerMerges_inst (by unfold Func.isWrapper; first | (rw [if_pos (by decide +kernel)]; kernel_rfl) | (rw [if_neg (by decide +kernel)]; exact ⟨rfl, rfl⟩))
    (fun os started H enc _ => law13_CareerMerges_lifted os started H enc)
#print axioms law13_CareerMerges_said
end Go.Proofs.Ytchffdmfiffifaa
