/- The law CareerLife returns true for every input, and its arguments read afterwards as before. No condition. -/
import Derived.Test.YtchffdmfiffifaaSCareerLifeb
set_option linter.all false
set_option maxRecDepth 100000
namespace Go.Proofs.Ytchffdmfiffifaa
open Go.Ax Go.ChangeShapes Go.WideShapes Go.ChangeAt Go.RowKit
theorem law13_CareerLife_a1 : Rows.careerLifeRow.wf (OpenSpec.ofChange Rows.careerLifeSpec) = true := by kernel_rfl
theorem law13_CareerLife_a5 : namedTie Try.prog Rows.careerLifeRow.named Rows.careerLifeSpec.vars = true := by kernel_rfl
theorem law13_CareerLife_hfn : Try.pinned.checked.prog.funcNamed Rows.careerLifeRow.func = some 11 := by kernel_rfl
theorem law13_CareerLife_closed : joinedFacts Try.prog 11 Try.f11 Rows.careerLifeSpec Rows.careerLifeRow = true :=
  joined_mk law13_CareerLife_a1 q_a2 q_a3 (by kernel_rfl) law13_CareerLife_a5 (by kernel_rfl) q_a7 (by kernel_rfl) q_a9 law13_CareerLife_b1 law13_CareerLife_b2 law13_CareerLife_b3 law13_CareerLife_b4 (by kernel_rfl) (by kernel_rfl) (by kernel_rfl) (by kernel_rfl) (by kernel_rfl)
    (by kernel_rfl) (by kernel_rfl) (by kernel_rfl) (by kernel_rfl) (by kernel_rfl) (by kernel_rfl) q_c7 q_c8 (by rw [q_c9]; rfl) (by rw [q_d1]; rfl) (by kernel_rfl) (by kernel_rfl) (by kernel_rfl) (by kernel_rfl)
theorem law13_CareerLife_inst : Try.f11.isInstance Try.pinned.checked.prog Rows.careerLifeRow.origin Rows.careerLifeRow.targs := of_decide_eq_true (by kernel_rfl)
theorem law13_CareerLife_said : Rows.CareerLifeSaid :=
  OpenClaim.holds_of_wide 11 Try.f11 rfl rfl rfl rfl rfl rfl rfl ⟨rfl, rfl, rfl, rfl, rfl⟩ rfl rfl rfl rfl rfl law13_CareerLife_hfn Try.func11 law13_CareerLife_closed
    law13_CareerLife_inst (by unfold Func.isWrapper; first | (rw [if_pos (by decide +kernel)]; kernel_rfl) | (rw [if_neg (by decide +kernel)]; exact ⟨rfl, rfl⟩))
    (fun os started H enc _ => law13_CareerLife_lifted os started H enc)
#print axioms law13_CareerLife_said
end Go.Proofs.Ytchffdmfiffifaa
