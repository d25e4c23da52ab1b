/- The law CareerSpans returns true for every input, and its arguments read afterwards as before. No condition. -/
import Derived.Test.YtefjkielgagknaaGreatSCareerSpansb
set_option linter.all false
set_option maxRecDepth 100000
namespace Go.Proofs.YtefjkielgagknaaGreat
open Go.Ax Go.ChangeShapes Go.WideShapes Go.ChangeAt Go.RowKit
theorem law13_CareerSpans_a1 : Rows.careerSpansRow.wf (OpenSpec.ofChange Rows.careerSpansSpec) = true := by kernel_rfl
theorem law13_CareerSpans_a5 : namedTie Tryz.prog Rows.careerSpansRow.named Rows.careerSpansSpec.vars = true := by kernel_rfl
theorem law13_CareerSpans_hfn : Tryz.pinned.checked.prog.funcNamed Rows.careerSpansRow.func = some 3 := by kernel_rfl
theorem law13_CareerSpans_closed : joinedFacts Tryz.prog 3 Tryz.f3 Rows.careerSpansSpec Rows.careerSpansRow = true :=
  joined_mk law13_CareerSpans_a1 q_a2 q_a3 (by kernel_rfl) law13_CareerSpans_a5 (by kernel_rfl) q_a7 (by kernel_rfl) q_a9 law13_CareerSpans_b1 law13_CareerSpans_b2 law13_CareerSpans_b3 law13_CareerSpans_b4 (by kernel_rfl) (by kernel_rfl) (by kernel_rfl) (by kernel_rfl) (by kernel_rfl)
    (by kernel_rfl) (by kernel_rfl) (by kernel_rfl) (by kernel_rfl) (by kernel_rfl) (by kernel_rfl) q_c7 q_c8 (by rw [q_c9]; rfl) (by rw [q_d1]; rfl) (by kernel_rfl) (by kernel_rfl) (by kernel_rfl) (by kernel_rfl)
theorem law13_CareerSpans_inst : Tryz.f3.isInstance Tryz.pinned.checked.prog Rows.careerSpansRow.origin Rows.careerSpansRow.targs := of_decide_eq_true (by kernel_rfl)
theorem law13_CareerSpans_said : Rows.CareerSpansSaid :=
  OpenClaim.holds_of_wide 3 Tryz.f3 rfl rfl rfl rfl rfl rfl rfl ⟨rfl, rfl, rfl, rfl, rfl⟩ rfl rfl rfl rfl rfl law13_CareerSpans_hfn Tryz.func3 law13_CareerSpans_closed
    law13_CareerSpans_inst (by unfold Func.isWrapper; first | (rw [if_pos (by decide +kernel)]; kernel_rfl) | (rw [if_neg (by decide +kernel)]; exact ⟨rfl, rfl⟩))
    (fun os started H enc _ => law13_CareerSpans_lifted os started H enc)
#print axioms law13_CareerSpans_said
end Go.Proofs.YtefjkielgagknaaGreat
