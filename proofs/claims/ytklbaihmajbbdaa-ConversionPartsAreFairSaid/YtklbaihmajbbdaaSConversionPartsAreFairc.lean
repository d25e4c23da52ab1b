/- The law ConversionPartsAreFair returns true for every input, and its arguments read afterwards as before. No condition. -/
import Derived.Test.YtklbaihmajbbdaaSConversionPartsAreFairb
set_option linter.all false
set_option maxRecDepth 100000
namespace Go.Proofs.Ytklbaihmajbbdaa
open Go.Ax Go.ChangeShapes Go.WideShapes Go.ChangeAt Go.RowKit
theorem law22_ConversionPartsAreFair_a1 : Rows.conversionPartsAreFairRow.wf (OpenSpec.ofChange Rows.conversionPartsAreFairSpec) = true := by kernel_rfl
theorem law22_ConversionPartsAreFair_a5 : namedTie Try.prog Rows.conversionPartsAreFairRow.named Rows.conversionPartsAreFairSpec.vars = true := by kernel_rfl
theorem law22_ConversionPartsAreFair_hfn : Try.pinned.checked.prog.funcNamed Rows.conversionPartsAreFairRow.func = some 13 := by kernel_rfl
theorem law22_ConversionPartsAreFair_closed : joinedFacts Try.prog 13 Try.f13 Rows.conversionPartsAreFairSpec Rows.conversionPartsAreFairRow = true :=
  joined_mk law22_ConversionPartsAreFair_a1 q_a2 q_a3 (by kernel_rfl) law22_ConversionPartsAreFair_a5 (by kernel_rfl) q_a7 (by kernel_rfl) q_a9 law22_ConversionPartsAreFair_b1 law22_ConversionPartsAreFair_b2 law22_ConversionPartsAreFair_b3 law22_ConversionPartsAreFair_b4 (by kernel_rfl) (by kernel_rfl) (by kernel_rfl) (by kernel_rfl) (by kernel_rfl)
    (by kernel_rfl) (by kernel_rfl) (by kernel_rfl) (by kernel_rfl) (by kernel_rfl) (by kernel_rfl) q_c7 q_c8 (by rw [q_c9]; rfl) (by rw [q_d1]; rfl) (by kernel_rfl) (by kernel_rfl) (by kernel_rfl) (by kernel_rfl)
theorem law22_ConversionPartsAreFair_inst : Try.f13.isInstance Try.pinned.checked.prog Rows.conversionPartsAreFairRow.origin Rows.conversionPartsAreFairRow.targs := of_decide_eq_true (by kernel_rfl)
theorem law22_ConversionPartsAreFair_said : Rows.ConversionPartsAreFairSaid :=
  OpenClaim.holds_of_wide 13 Try.f13 rfl rfl rfl rfl rfl rfl rfl ⟨rfl, rfl, rfl, rfl, rfl⟩ rfl rfl rfl rfl rfl law22_ConversionPartsAreFair_hfn Try.func13 law22_ConversionPartsAreFair_closed
    law22_ConversionPartsAreFair_inst (by unfold Func.isWrapper; first | (rw [if_pos (by decide +kernel)]; kernel_rfl) | (rw [if_neg (by decide +kernel)]; exact ⟨rfl, rfl⟩))
    (fun os started H enc _ => law22_ConversionPartsAreFair_lifted os started H enc)
#print axioms law22_ConversionPartsAreFair_said
end Go.Proofs.Ytklbaihmajbbdaa
