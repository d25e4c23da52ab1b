/- The law CareerFamily returns true for every input, and its arguments read afterwards as before. No condition. -/
import Derived.Test.YtefjkielgagknaaSCareerFamilyb
set_option linter.all false
set_option maxRecDepth 100000
namespace Go.Proofs.Ytefjkielgagknaa
open Go.Ax Go.ChangeShapes Go.WideShapes Go.ChangeAt Go.RowKit
theorem law13_CareerFamily_a1 : Rows.careerFamilyRow.wf (OpenSpec.ofChange Rows.careerFamilySpec) = true := by kernel_rfl
theorem law13_CareerFamily_a5 : namedTie Try.prog Rows.careerFamilyRow.named Rows.careerFamilySpec.vars = true := by kernel_rfl
theorem law13_CareerFamily_hfn : Try.pinned.checked.prog.funcNamed Rows.careerFamilyRow.func = some 3 := by kernel_rfl
theorem law13_CareerFamily_closed : joinedFacts Try.prog 3 Try.f3 Rows.careerFamilySpec Rows.careerFamilyRow = true :=
  joined_mk law13_CareerFamily_a1 q_a2 q_a3 (by kernel_rfl) law13_CareerFamily_a5 (by kernel_rfl) q_a7 (by kernel_rfl) q_a9 law13_CareerFamily_b1 law13_CareerFamily_b2 law13_CareerFamily_b3 law13_CareerFamily_b4 (by kernel_rfl) (by kernel_rfl) (by kernel_rfl) (by kernel_rfl) (by kernel_rfl)
    (by kernel_rfl) (by kernel_rfl) (by kernel_rfl) (by kernel_rfl) (by kernel_rfl) (by kernel_rfl) q_c7 q_c8 (by rw [q_c9]; rfl) (by rw [q_d1]; rfl) (by kernel_rfl) (by kernel_rfl) (by kernel_rfl) (by kernel_rfl)
theorem law13_CareerFamily_inst : Try.f3.isInstance Try.pinned.checked.prog Rows.careerFamilyRow.origin Rows.careerFamilyRow.targs := of_decide_eq_true (by kernel_rfl)
theorem law13_CareerFamily_said : Rows.CareerFamilySaid :=
  OpenClaim.holds_of_wide 3 Try.f3 rfl rfl rfl rfl rfl rfl rfl ⟨rfl, rfl, rfl, rfl, rfl⟩ rfl rfl rfl rfl rfl law13_CareerFamily_hfn Try.func3 law13_CareerFamily_closed
    law13_CareerFamily_inst (by unfold Func.isWrapper; first | (rw [if_pos (by decide +kernel)]; kernel_rfl) | (rw [if_neg (by decide +kernel)]; exact ⟨rfl, rfl⟩))
    (fun os started H enc _ => law13_CareerFamily_lifted os started H enc)
#print axioms law13_CareerFamily_said
end Go.Proofs.Ytefjkielgagknaa
