/- The law ConversionConvertAgrees returns true for every input, and its arguments read afterwards as before. No condition. -/
import Derived.Test.YtklbaihmajbbdaaSConversionConvertAgreesb
set_option linter.all false
set_option maxRecDepth 100000
namespace Go.Proofs.Ytklbaihmajbbdaa
open Go.Ax Go.ChangeShapes Go.WideShapes Go.ChangeAt Go.RowKit
theorem law22_ConversionConvertAgrees_a1 : Rows.conversionConvertAgreesRow.wf (OpenSpec.ofChange Rows.conversionConvertAgreesSpec) = true := by kernel_rfl
theorem law22_ConversionConvertAgrees_a5 : namedTie Try.prog Rows.conversionConvertAgreesRow.named Rows.conversionConvertAgreesSpec.vars = true := by kernel_rfl
theorem law22_ConversionConvertAgrees_hfn : Try.pinned.checked.prog.funcNamed Rows.conversionConvertAgreesRow.func = some 3 := by kernel_rfl
theorem law22_ConversionConvertAgrees_closed : joinedFacts Try.prog 3 Try.f3 Rows.conversionConvertAgreesSpec Rows.conversionConvertAgreesRow = true :=
  joined_mk law22_ConversionConvertAgrees_a1 q_a2 q_a3 (by kernel_rfl) law22_ConversionConvertAgrees_a5 (by kernel_rfl) q_a7 (by kernel_rfl) q_a9 law22_ConversionConvertAgrees_b1 law22_ConversionConvertAgrees_b2 law22_ConversionConvertAgrees_b3 law22_ConversionConvertAgrees_b4 (by kernel_rfl) (by kernel_rfl) (by kernel_rfl) (by kernel_rfl) (by kernel_rfl)
    (by kernel_rfl) (by kernel_rfl) (by kernel_rfl) (by kernel_rfl) (by kernel_rfl) (by kernel_rfl) q_c7 q_c8 (by rw [q_c9]; rfl) (by rw [q_d1]; rfl) (by kernel_rfl) (by kernel_rfl) (by kernel_rfl) (by kernel_rfl)
theorem law22_ConversionConvertAgrees_inst : Try.f3.isInstance Try.pinned.checked.prog Rows.conversionConvertAgreesRow.origin Rows.conversionConvertAgreesRow.targs := of_decide_eq_true (by kernel_rfl)
theorem law22_ConversionConvertAgrees_said : Rows.ConversionConvertAgreesSaid :=
  OpenClaim.holds_of_wide 3 Try.f3 rfl rfl rfl rfl rfl rfl rfl ⟨rfl, rfl, rfl, rfl, rfl⟩ rfl rfl rfl rfl rfl law22_ConversionConvertAgrees_hfn Try.func3 law22_ConversionConvertAgrees_closed
    law22_ConversionConvertAgrees_inst (by unfold Func.isWrapper; first | (rw [if_pos (by decide +kernel)]; kernel_rfl) | (rw [if_neg (by decide +kernel)]; exact ⟨rfl, rfl⟩))
    (fun os started H enc _ => law22_ConversionConvertAgrees_lifted os started H enc)
#print axioms law22_ConversionConvertAgrees_said
end Go.Proofs.Ytklbaihmajbbdaa
