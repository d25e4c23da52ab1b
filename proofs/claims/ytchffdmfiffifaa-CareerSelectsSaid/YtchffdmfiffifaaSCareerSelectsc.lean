/- The law CareerSelects returns true for every input, and its arguments read afterwards as before. No condition. -/
import Derived.Test.YtchffdmfiffifaaSCareerSelectsb
set_option linter.all false
set_option maxRecDepth 100000
namespace Go.Proofs.Ytchffdmfiffifaa
open Go.Ax Go.ChangeShapes Go.WideShapes Go.ChangeAt Go.RowKit
theorem law13_CareerSelects_a1 : Rows.careerSelectsRow.wf (OpenSpec.ofChange Rows.careerSelectsSpec) = true := by kernel_rfl
theorem law13_CareerSelects_a5 : namedTie Try.prog Rows.careerSelectsRow.named Rows.careerSelectsSpec.vars = true := by kernel_rfl
theorem law13_CareerSelects_hfn : Try.pinned.checked.prog.funcNamed Rows.careerSelectsRow.func = some 12 := by kernel_rfl
theorem law13_CareerSelects_closed : joinedFacts Try.prog 12 Try.f12 Rows.careerSelectsSpec Rows.careerSelectsRow = true :=
  joined_mk law13_CareerSelects_a1 q_a2 q_a3 (by kernel_rfl) law13_CareerSelects_a5 (by kernel_rfl) q_a7 (by kernel_rfl) q_a9 law13_CareerSelects_b1 law13_CareerSelects_b2 law13_CareerSelects_b3 law13_CareerSelects_b4 (by kernel_rfl) (by kernel_rfl) (by kernel_rfl) (by kernel_rfl) (by kernel_rfl)
    (by kernel_rfl) (by kernel_rfl) (by kernel_rfl) (by kernel_rfl) (by kernel_rfl) (by kernel_rfl) q_c7 q_c8 (by rw [q_c9]; rfl) (by rw [q_d1]; rfl) (by kernel_rfl) (by kernel_rfl) (by kernel_rfl) (by kernel_rfl)
theorem law13_CareerSelects_inst : Try.f12.isInstance Try.pinned.checked.prog Rows.careerSelectsRow.origin Rows.careerSelectsRow.targs := of_decide_eq_true (by kernel_rfl)
theorem law13_CareerSelects_said : Rows.CareerSelectsSaid :=
  OpenClaim.holds_of_wide 12 Try.f12 rfl rfl rfl rfl rfl rfl rfl ⟨rfl, rfl, rfl, rfl, rfl⟩ rfl rfl rfl rfl rfl law13_CareerSelects_hfn Try.func12 law13_CareerSelects_closed
    law13_CareerSelects_inst (by unfold Func.isWrapper; first | (rw [if_pos (by decide +kernel)]; kernel_rfl) | (rw [if_neg (by decide +kernel)]; exact ⟨rfl, rfl⟩))
    (fun os started H enc _ => law13_CareerSelects_lifted os started H enc)
#print axioms law13_CareerSelects_said
end Go.Proofs.Ytchffdmfiffifaa
