/- The law ConversionSurvivorsIgnoreOrder returns true for every input, and its arguments read afterwards as before. No condition. -/
import Derived.Test.YtkijjjdaijjpaaaGreatSConversionSurvivorsIgnoreOrderb
set_option linter.all false
set_option maxRecDepth 100000
namespace Go.Proofs.YtkijjjdaijjpaaaGreat
open Go.Ax Go.ChangeShapes Go.WideShapes Go.ChangeAt Go.RowKit
theorem law22_ConversionSurvivorsIgnoreOrder_a1 : Rows.conversionSurvivorsIgnoreOrderRow.wf (OpenSpec.ofChange Rows.conversionSurvivorsIgnoreOrderSpec) = true := by kernel_rfl
theorem law22_ConversionSurvivorsIgnoreOrder_a5 : namedTie Tryz.prog Rows.conversionSurvivorsIgnoreOrderRow.named Rows.conversionSurvivorsIgnoreOrderSpec.vars = true := by kernel_rfl
theorem law22_ConversionSurvivorsIgnoreOrder_hfn : Tryz.pinned.checked.prog.funcNamed Rows.conversionSurvivorsIgnoreOrderRow.func = some 4 := by kernel_rfl
theorem law22_ConversionSurvivorsIgnoreOrder_closed : joinedFacts Tryz.prog 4 Tryz.f4 Rows.conversionSurvivorsIgnoreOrderSpec Rows.conversionSurvivorsIgnoreOrderRow = true :=
  joined_mk law22_ConversionSurvivorsIgnoreOrder_a1 q_a2 q_a3 (by kernel_rfl) law22_ConversionSurvivorsIgnoreOrder_a5 (by kernel_rfl) q_a7 (by kernel_rfl) q_a9 law22_ConversionSurvivorsIgnoreOrder_b1 law22_ConversionSurvivorsIgnoreOrder_b2 law22_ConversionSurvivorsIgnoreOrder_b3 law22_ConversionSurvivorsIgnoreOrder_b4 (by kernel_rfl) (by kernel_rfl) (by kernel_rfl) (by kernel_rfl) (by kernel_rfl)
    (by kernel_rfl) (by kernel_rfl) (by kernel_rfl) (by kernel_rfl) (by kernel_rfl) (by kernel_rfl) q_c7 q_c8 (by rw [q_c9]; rfl) (by rw [q_d1]; rfl) (by kernel_rfl) (by kernel_rfl) (by kernel_rfl) (by kernel_rfl)
theorem law22_ConversionSurvivorsIgnoreOrder_inst : Tryz.f4.isInstance Tryz.pinned.checked.prog Rows.conversionSurvivorsIgnoreOrderRow.origin Rows.conversionSurvivorsIgnoreOrderRow.targs := of_decide_eq_true (by kernel_rfl)
theorem law22_ConversionSurvivorsIgnoreOrder_said : Rows.ConversionSurvivorsIgnoreOrderSaid :=
  OpenClaim.holds_of_wide 4 Tryz.f4 rfl rfl rfl rfl rfl rfl rfl ⟨rfl, rfl, rfl, rfl, rfl⟩ rfl rfl rfl rfl rfl law22_ConversionSurvivorsIgnoreOrder_hfn Tryz.func4 law22_ConversionSurvivorsIgnoreOrder_closed
    law22_ConversionSurvivorsIgnoreOrder_inst (by unfold Func.isWrapper; first | (rw [if_pos (by decide +kernel)]; kernel_rfl) | (rw [if_neg (by decide +kernel)]; exact ⟨rfl, rfl⟩))
    (fun os started H enc _ => law22_ConversionSurvivorsIgnoreOrder_lifted os started H enc)
#print axioms law22_ConversionSurvivorsIgnoreOrder_said
end Go.Proofs.YtkijjjdaijjpaaaGreat
