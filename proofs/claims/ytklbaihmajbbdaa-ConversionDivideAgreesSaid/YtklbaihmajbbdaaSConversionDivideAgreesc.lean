/- The law ConversionDivideAgrees returns true for every input, and its arguments read afterwards as before. No condition. -/
import Derived.Test.YtklbaihmajbbdaaSConversionDivideAgreesb
set_option linter.all false
set_option maxRecDepth 100000
namespace Go.Proofs.Ytklbaihmajbbdaa
open Go.Ax Go.ChangeShapes Go.WideShapes Go.ChangeAt Go.RowKit
theorem law22_ConversionDivideAgrees_a1 : Rows.conversionDivideAgreesRow.wf (OpenSpec.ofChange Rows.conversionDivideAgreesSpec) = true := by kernel_rfl
theorem law22_ConversionDivideAgrees_a5 : namedTie Try.prog Rows.conversionDivideAgreesRow.named Rows.conversionDivideAgreesSpec.vars = true := by kernel_rfl
theorem law22_ConversionDivideAgrees_hfn : Try.pinned.checked.prog.funcNamed Rows.conversionDivideAgreesRow.func = some 11 := by kernel_rfl
theorem law22_ConversionDivideAgrees_closed : joinedFacts Try.prog 11 Try.f11 Rows.conversionDivideAgreesSpec Rows.conversionDivideAgreesRow = true :=
  joined_mk law22_ConversionDivideAgrees_a1 q_a2 q_a3 (by kernel_rfl) law22_ConversionDivideAgrees_a5 (by kernel_rfl) q_a7 (by kernel_rfl) q_a9 law22_ConversionDivideAgrees_b1 law22_ConversionDivideAgrees_b2 law22_ConversionDivideAgrees_b3 law22_ConversionDivideAgrees_b4 (by kernel_rfl) (by kernel_rfl) (by kernel_rfl) (by kernel_rfl) (by kernel_rfl)
    (by kernel_rfl) (by kernel_rfl) (by kernel_rfl) (by kernel_rfl) (by kernel_rfl) (by kernel_rfl) q_c7 q_c8 (by rw [q_c9]; rfl) (by rw [q_d1]; rfl) (by kernel_rfl) (by kernel_rfl) (by kernel_rfl) (by kernel_rfl)
theorem law22_ConversionDivideAgrees_inst : Try.f11.isInstance Try.pinned.checked.prog Rows.conversionDivideAgreesRow.origin Rows.conversionDivideAgreesRow.targs := of_decide_eq_true (by kernel_rfl)
theorem law22_ConversionDivideAgrees_said : Rows.ConversionDivideAgreesSaid :=
  OpenClaim.holds_of_wide 11 Try.f11 rfl rfl rfl rfl rfl rfl rfl ⟨rfl, rfl, rfl, rfl, rfl⟩ rfl rfl rfl rfl rfl law22_ConversionDivideAgrees_hfn Try.func11 law22_ConversionDivideAgrees_closed
    law22_ConversionDivideAgrees_inst (by unfold Func.isWrapper; first | (rw [if_pos (by decide +kernel)]; kernel_rfl) | (rw [if_neg (by decide +kernel)]; exact ⟨rfl, rfl⟩))
    (fun os started H enc _ => law22_ConversionDivideAgrees_lifted os started H enc)
#print axioms law22_ConversionDivideAgrees_said
end Go.Proofs.Ytklbaihmajbbdaa
