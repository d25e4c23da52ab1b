/- The law ConversionSurvivorsAreValid returns true for every input, and its arguments read afterwards as before. No condition. -/
import Derived.Test.YtkijjjdaijjpaaaGreatSConversionSurvivorsAreValidb
set_option linter.all false
set_option maxRecDepth 100000
namespace Go.Proofs.YtkijjjdaijjpaaaGreat
open Go.Ax Go.ChangeShapes Go.WideShapes Go.ChangeAt Go.RowKit
theorem law22_ConversionSurvivorsAreValid_a1 : Rows.conversionSurvivorsAreValidRow.wf (OpenSpec.ofChange Rows.conversionSurvivorsAreValidSpec) = true := by kernel_rfl
theorem law22_ConversionSurvivorsAreValid_a5 : namedTie Tryz.prog Rows.conversionSurvivorsAreValidRow.named Rows.conversionSurvivorsAreValidSpec.vars = true := by kernel_rfl
theorem law22_ConversionSurvivorsAreValid_hfn : Tryz.pinned.checked.prog.funcNamed Rows.conversionSurvivorsAreValidRow.func = some 5 := by kernel_rfl
theorem law22_ConversionSurvivorsAreValid_closed : joinedFacts Tryz.prog 5 Tryz.f5 Rows.conversionSurvivorsAreValidSpec Rows.conversionSurvivorsAreValidRow = true :=
  joined_mk law22_ConversionSurvivorsAreValid_a1 q_a2 q_a3 (by kernel_rfl) law22_ConversionSurvivorsAreValid_a5 (by kernel_rfl) q_a7 (by kernel_rfl) q_a9 law22_ConversionSurvivorsAreValid_b1 law22_ConversionSurvivorsAreValid_b2 law22_ConversionSurvivorsAreValid_b3 law22_ConversionSurvivorsAreValid_b4 (by kernel_rfl) (by kernel_rfl) (by kernel_rfl) (by kernel_rfl) (by kernel_rfl)
    (by kernel_rfl) (by kernel_rfl) (by kernel_rfl) (by kernel_rfl) (by kernel_rfl) (by kernel_rfl) q_c7 q_c8 (by rw [q_c9]; rfl) (by rw [q_d1]; rfl) (by kernel_rfl) (by kernel_rfl) (by kernel_rfl) (by kernel_rfl)
theorem law22_ConversionSurvivorsAreValid_inst : Tryz.f5.isInstance Tryz.pinned.checked.prog Rows.conversionSurvivorsAreValidRow.origin Rows.conversionSurvivorsAreValidRow.targs := of_decide_eq_true (by kernel_rfl)
theorem law22_ConversionSurvivorsAreValid_said : Rows.ConversionSurvivorsAreValidSaid :=
  OpenClaim.holds_of_wide 5 Tryz.f5 rfl rfl rfl rfl rfl rfl rfl ⟨rfl, rfl, rfl, rfl, rfl⟩ rfl rfl rfl rfl rfl law22_ConversionSurvivorsAreValid_hfn Tryz.func5 law22_ConversionSurvivorsAreValid_closed
    law22_ConversionSurvivorsAreValid_inst (by unfold Func.isWrapper; first | (rw [if_pos (by decide +kernel)]; kernel_rfl) | (rw [if_neg (by decide +kernel)]; exact ⟨rfl, rfl⟩))
    (fun os started H enc _ => law22_ConversionSurvivorsAreValid_lifted os started H enc)
#print axioms law22_ConversionSurvivorsAreValid_said
end Go.Proofs.YtkijjjdaijjpaaaGreat
