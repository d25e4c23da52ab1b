/- The law ConversionPartsAddUp returns true for every input, and its arguments read afterwards as before. No condition. -/
import Derived.Test.YtklbaihmajbbdaaSConversionPartsAddUpb
set_option linter.all false
set_option maxRecDepth 100000
namespace Go.Proofs.Ytklbaihmajbbdaa
open Go.Ax Go.ChangeShapes Go.WideShapes Go.ChangeAt Go.RowKit
theorem law22_ConversionPartsAddUp_a1 : Rows.conversionPartsAddUpRow.wf (OpenSpec.ofChange Rows.conversionPartsAddUpSpec) = true := by kernel_rfl
theorem law22_ConversionPartsAddUp_a5 : namedTie Try.prog Rows.conversionPartsAddUpRow.named Rows.conversionPartsAddUpSpec.vars = true := by kernel_rfl
theorem law22_ConversionPartsAddUp_hfn : Try.pinned.checked.prog.funcNamed Rows.conversionPartsAddUpRow.func = some 8 := by kernel_rfl
theorem law22_ConversionPartsAddUp_closed : joinedFacts Try.prog 8 Try.f8 Rows.conversionPartsAddUpSpec Rows.conversionPartsAddUpRow = true :=
  joined_mk law22_ConversionPartsAddUp_a1 q_a2 q_a3 (by kernel_rfl) law22_ConversionPartsAddUp_a5 (by kernel_rfl) q_a7 (by kernel_rfl) q_a9 law22_ConversionPartsAddUp_b1 law22_ConversionPartsAddUp_b2 law22_ConversionPartsAddUp_b3 law22_ConversionPartsAddUp_b4 (by kernel_rfl) (by kernel_rfl) (by kernel_rfl) (by kernel_rfl) (by kernel_rfl)
    (by kernel_rfl) (by kernel_rfl) (by kernel_rfl) (by kernel_rfl) (by kernel_rfl) (by kernel_rfl) q_c7 q_c8 (by rw [q_c9]; rfl) (by rw [q_d1]; rfl) (by kernel_rfl) (by kernel_rfl) (by kernel_rfl) (by kernel_rfl)
theorem law22_ConversionPartsAddUp_inst : Try.f8.isInstance Try.pinned.checked.prog Rows.conversionPartsAddUpRow.origin Rows.conversionPartsAddUpRow.targs := of_decide_eq_true (by kernel_rfl)
theorem law22_ConversionPartsAddUp_said : Rows.ConversionPartsAddUpSaid :=
  OpenClaim.holds_of_wide 8 Try.f8 rfl rfl rfl rfl rfl rfl rfl ⟨rfl, rfl, rfl, rfl, rfl⟩ rfl rfl rfl rfl rfl law22_ConversionPartsAddUp_hfn Try.func8 law22_ConversionPartsAddUp_closed
    law22_ConversionPartsAddUp_inst (by unfold Func.isWrapper; first | (rw [if_pos (by decide +kernel)]; kernel_rfl) | (rw [if_neg (by decide +kernel)]; exact ⟨rfl, rfl⟩))
    (fun os started H enc _ => law22_ConversionPartsAddUp_lifted os started H enc)
#print axioms law22_ConversionPartsAddUp_said
end Go.Proofs.Ytklbaihmajbbdaa
