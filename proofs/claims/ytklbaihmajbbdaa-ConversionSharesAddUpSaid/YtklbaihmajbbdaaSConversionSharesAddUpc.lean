/- The law ConversionSharesAddUp returns true for every input, and its arguments read afterwards as before. No condition. -/
import Derived.Test.YtklbaihmajbbdaaSConversionSharesAddUpb
set_option linter.all false
set_option maxRecDepth 100000
namespace Go.Proofs.Ytklbaihmajbbdaa
open Go.Ax Go.ChangeShapes Go.WideShapes Go.ChangeAt Go.RowKit
theorem law22_ConversionSharesAddUp_a1 : Rows.conversionSharesAddUpRow.wf (OpenSpec.ofChange Rows.conversionSharesAddUpSpec) = true := by kernel_rfl
theorem law22_ConversionSharesAddUp_a5 : namedTie Try.prog Rows.conversionSharesAddUpRow.named Rows.conversionSharesAddUpSpec.vars = true := by kernel_rfl
theorem law22_ConversionSharesAddUp_hfn : Try.pinned.checked.prog.funcNamed Rows.conversionSharesAddUpRow.func = some 12 := by kernel_rfl
theorem law22_ConversionSharesAddUp_closed : joinedFacts Try.prog 12 Try.f12 Rows.conversionSharesAddUpSpec Rows.conversionSharesAddUpRow = true :=
  joined_mk law22_ConversionSharesAddUp_a1 q_a2 q_a3 (by kernel_rfl) law22_ConversionSharesAddUp_a5 (by kernel_rfl) q_a7 (by kernel_rfl) q_a9 law22_ConversionSharesAddUp_b1 law22_ConversionSharesAddUp_b2 law22_ConversionSharesAddUp_b3 law22_ConversionSharesAddUp_b4 (by kernel_rfl) (by kernel_rfl) (by kernel_rfl) (by kernel_rfl) (by kernel_rfl)
    (by kernel_rfl) (by kernel_rfl) (by kernel_rfl) (by kernel_rfl) (by kernel_rfl) (by kernel_rfl) q_c7 q_c8 (by rw [q_c9]; rfl) (by rw [q_d1]; rfl) (by kernel_rfl) (by kernel_rfl) (by kernel_rfl) (by kernel_rfl)
theorem law22_ConversionSharesAddUp_inst : Try.f12.isInstance Try.pinned.checked.prog Rows.conversionSharesAddUpRow.origin Rows.conversionSharesAddUpRow.targs := of_decide_eq_true (by kernel_rfl)
theorem law22_ConversionSharesAddUp_said : Rows.ConversionSharesAddUpSaid :=
  OpenClaim.holds_of_wide 12 Try.f12 rfl rfl rfl rfl rfl rfl rfl ⟨rfl, rfl, rfl, rfl, rfl⟩ rfl rfl rfl rfl rfl law22_ConversionSharesAddUp_hfn Try.func12 law22_ConversionSharesAddUp_closed
    law22_ConversionSharesAddUp_inst (by unfold Func.isWrapper; first | (rw [if_pos (by decide +kernel)]; kernel_rfl) | (rw [if_neg (by decide +kernel)]; exact ⟨rfl, rfl⟩))
    (fun os started H enc _ => law22_ConversionSharesAddUp_lifted os started H enc)
#print axioms law22_ConversionSharesAddUp_said
end Go.Proofs.Ytklbaihmajbbdaa
