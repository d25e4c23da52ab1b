/- The law CareerWithdrawn returns true for every input, and its arguments read afterwards as before. No condition. -/
import Derived.Test.YtefjkielgagknaaGreatSCareerWithdrawnb
set_option linter.all false
set_option maxRecDepth 100000
namespace Go.Proofs.YtefjkielgagknaaGreat
open Go.Ax Go.ChangeShapes Go.WideShapes Go.ChangeAt Go.RowKit
theorem law13_CareerWithdrawn_a1 : Rows.careerWithdrawnRow.wf (OpenSpec.ofChange Rows.careerWithdrawnSpec) = true := by kernel_rfl
theorem law13_CareerWithdrawn_a5 : namedTie Tryz.prog Rows.careerWithdrawnRow.named Rows.careerWithdrawnSpec.vars = true := by kernel_rfl
theorem law13_CareerWithdrawn_hfn : Tryz.pinned.checked.prog.funcNamed Rows.careerWithdrawnRow.func = some 4 := by kernel_rfl
theorem law13_CareerWithdrawn_closed : joinedFacts Tryz.prog 4 Tryz.f4 Rows.careerWithdrawnSpec Rows.careerWithdrawnRow = true :=
  joined_mk law13_CareerWithdrawn_a1 q_a2 q_a3 (by kernel_rfl) law13_CareerWithdrawn_a5 (by kernel_rfl) q_a7 (by kernel_rfl) q_a9 law13_CareerWithdrawn_b1 law13_CareerWithdrawn_b2 law13_CareerWithdrawn_b3 law13_CareerWithdrawn_b4 (by kernel_rfl) (by kernel_rfl) (by kernel_rfl) (by kernel_rfl) (by kernel_rfl)
    (by kernel_rfl) (by kernel_rfl) (by kernel_rfl) (by kernel_rfl) (by kernel_rfl) (by kernel_rfl) q_c7 q_c8 (by rw [q_c9]; rfl) (by rw [q_d1]; rfl) (by kernel_rfl) (by kernel_rfl) (by kernel_rfl) (by kernel_rfl)
theorem law13_CareerWithdrawn_inst : Tryz.f4.isInstance Tryz.pinned.checked.prog Rows.careerWithdrawnRow.origin Rows.careerWithdrawnRow.targs := of_decide_eq_true (by kernel_rfl)
theorem law13_CareerWithdrawn_said : Rows.CareerWithdrawnSaid :=
  OpenClaim.holds_of_wide 4 Tryz.f4 rfl rfl rfl rfl rfl rfl rfl ⟨rfl, rfl, rfl, rfl, rfl⟩ rfl rfl rfl rfl rfl law13_CareerWithdrawn_hfn Tryz.func4 law13_CareerWithdrawn_closed
    law13_CareerWithdrawn_inst (by unfold Func.isWrapper; first | (rw [if_pos (by decide +kernel)]; kernel_rfl) | (rw [if_neg (by decide +kernel)]; exact ⟨rfl, rfl⟩))
    (fun os started H enc _ => law13_CareerWithdrawn_lifted os started H enc)
#print axioms law13_CareerWithdrawn_said
end Go.Proofs.YtefjkielgagknaaGreat
