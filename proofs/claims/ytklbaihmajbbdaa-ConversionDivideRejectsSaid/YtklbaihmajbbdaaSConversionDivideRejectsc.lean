/- The law ConversionDivideRejects returns true for every input, and its arguments read afterwards as before. No condition. -/
import Derived.Test.YtklbaihmajbbdaaSConversionDivideRejectsb
set_option linter.all false
set_option maxRecDepth 100000
namespace Go.Proofs.Ytklbaihmajbbdaa
open Go.Ax Go.ChangeShapes Go.WideShapes Go.ChangeAt Go.RowKit
theorem law22_ConversionDivideRejects_a1 : Rows.conversionDivideRejectsRow.wf (OpenSpec.ofChange Rows.conversionDivideRejectsSpec) = true := by kernel_rfl
theorem law22_ConversionDivideRejects_a5 : namedTie Try.prog Rows.conversionDivideRejectsRow.named Rows.conversionDivideRejectsSpec.vars = true := by kernel_rfl
theorem law22_ConversionDivideRejects_hfn : Try.pinned.checked.prog.funcNamed Rows.conversionDivideRejectsRow.func = some 7 := by kernel_rfl
theorem law22_ConversionDivideRejects_closed : joinedFacts Try.prog 7 Try.f7 Rows.conversionDivideRejectsSpec Rows.conversionDivideRejectsRow = true :=
  joined_mk law22_ConversionDivideRejects_a1 q_a2 q_a3 (by kernel_rfl) law22_ConversionDivideRejects_a5 (by kernel_rfl) q_a7 (by kernel_rfl) q_a9 law22_ConversionDivideRejects_b1 law22_ConversionDivideRejects_b2 law22_ConversionDivideRejects_b3 law22_ConversionDivideRejects_b4 (by kernel_rfl) (by kernel_rfl) (by kernel_rfl) (by kernel_rfl) (by kernel_rfl)
    (by kernel_rfl) (by kernel_rfl) (by kernel_rfl) (by kernel_rfl) (by kernel_rfl) (by kernel_rfl) q_c7 q_c8 (by rw [q_c9]; rfl) (by rw [q_d1]; rfl) (by kernel_rfl) (by kernel_rfl) (by kernel_rfl) (by kernel_rfl)
theorem law22_ConversionDivideRejects_inst : Try.f7.isInstance Try.pinned.checked.prog Rows.conversionDivideRejectsRow.origin Rows.conversionDivideRejectsRow.targs := of_decide_eq_true (by kernel_rfl)
theorem law22_ConversionDivideRejects_said : Rows.ConversionDivideRejectsSaid :=
  OpenClaim.holds_of_wide 7 Try.f7 rfl rfl rfl rfl rfl rfl rfl ⟨rfl, rfl, rfl, rfl, rfl⟩ rfl rfl rfl rfl rfl law22_ConversionDivideRejects_hfn Try.func7 law22_ConversionDivideRejects_closed
    law22_ConversionDivideRejects_inst (by unfold Func.isWrapper; first | (rw [if_pos (by decide +kernel)]; kernel_rfl) | (rw [if_neg (by decide +kernel)]; exact ⟨rfl, rfl⟩))
    (fun os started H enc _ => law22_ConversionDivideRejects_lifted os started H enc)
#print axioms law22_ConversionDivideRejects_said
end Go.Proofs.Ytklbaihmajbbdaa
