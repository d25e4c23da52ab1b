/- The law ConversionEqualSurvivors returns true for every input, and its arguments read afterwards as before. No condition. -/
import Derived.Test.YtklbaihmajbbdaaSConversionEqualSurvivorsb
set_option linter.all false
set_option maxRecDepth 100000
namespace Go.Proofs.Ytklbaihmajbbdaa
open Go.Ax Go.ChangeShapes Go.WideShapes Go.ChangeAt Go.RowKit
theorem law22_ConversionEqualSurvivors_a1 : Rows.conversionEqualSurvivorsRow.wf (OpenSpec.ofChange Rows.conversionEqualSurvivorsSpec) = true := by kernel_rfl
theorem law22_ConversionEqualSurvivors_a5 : namedTie Try.prog Rows.conversionEqualSurvivorsRow.named Rows.conversionEqualSurvivorsSpec.vars = true := by kernel_rfl
theorem law22_ConversionEqualSurvivors_hfn : Try.pinned.checked.prog.funcNamed Rows.conversionEqualSurvivorsRow.func = some 9 := by kernel_rfl
theorem law22_ConversionEqualSurvivors_closed : joinedFacts Try.prog 9 Try.f9 Rows.conversionEqualSurvivorsSpec Rows.conversionEqualSurvivorsRow = true :=
  joined_mk law22_ConversionEqualSurvivors_a1 q_a2 q_a3 (by kernel_rfl) law22_ConversionEqualSurvivors_a5 (by kernel_rfl) q_a7 (by kernel_rfl) q_a9 law22_ConversionEqualSurvivors_b1 law22_ConversionEqualSurvivors_b2 law22_ConversionEqualSurvivors_b3 law22_ConversionEqualSurvivors_b4 (by kernel_rfl) (by kernel_rfl) (by kernel_rfl) (by kernel_rfl) (by kernel_rfl)
    (by kernel_rfl) (by kernel_rfl) (by kernel_rfl) (by kernel_rfl) (by kernel_rfl) (by kernel_rfl) q_c7 q_c8 (by rw [q_c9]; rfl) (by rw [q_d1]; rfl) (by kernel_rfl) (by kernel_rfl) (by kernel_rfl) (by kernel_rfl)
theorem law22_ConversionEqualSurvivors_inst : Try.f9.isInstance Try.pinned.checked.prog Rows.conversionEqualSurvivorsRow.origin Rows.conversionEqualSurvivorsRow.targs := of_decide_eq_true (by kernel_rfl)
theorem law22_ConversionEqualSurvivors_said : Rows.ConversionEqualSurvivorsSaid :=
  OpenClaim.holds_of_wide 9 Try.f9 rfl rfl rfl rfl rfl rfl rfl ⟨rfl, rfl, rfl, rfl, rfl⟩ rfl rfl rfl rfl rfl law22_ConversionEqualSurvivors_hfn Try.func9 law22_ConversionEqualSurvivors_closed
    law22_ConversionEqualSurvivors_inst (by unfold Func.isWrapper; first | (rw [if_pos (by decide +kernel)]; kernel_rfl) | (rw [if_neg (by decide +kernel)]; exact ⟨rfl, rfl⟩))
    (fun os started H enc _ => law22_ConversionEqualSurvivors_lifted os started H enc)
#print axioms law22_ConversionEqualSurvivors_said
end Go.Proofs.Ytklbaihmajbbdaa
