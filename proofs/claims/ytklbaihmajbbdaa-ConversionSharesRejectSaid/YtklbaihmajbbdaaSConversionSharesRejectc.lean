/- The law ConversionSharesReject returns true for every input, and its arguments read afterwards as before. No condition. -/
import Derived.Test.YtklbaihmajbbdaaSConversionSharesRejectb
set_option linter.all false
set_option maxRecDepth 100000
namespace Go.Proofs.Ytklbaihmajbbdaa
open Go.Ax Go.ChangeShapes Go.WideShapes Go.ChangeAt Go.RowKit
theorem law22_ConversionSharesReject_a1 : Rows.conversionSharesRejectRow.wf (OpenSpec.ofChange Rows.conversionSharesRejectSpec) = true := by kernel_rfl
theorem law22_ConversionSharesReject_a5 : namedTie Try.prog Rows.conversionSharesRejectRow.named Rows.conversionSharesRejectSpec.vars = true := by kernel_rfl
theorem law22_ConversionSharesReject_hfn : Try.pinned.checked.prog.funcNamed Rows.conversionSharesRejectRow.func = some 6 := by kernel_rfl
theorem law22_ConversionSharesReject_closed : joinedFacts Try.prog 6 Try.f6 Rows.conversionSharesRejectSpec Rows.conversionSharesRejectRow = true :=
  joined_mk law22_ConversionSharesReject_a1 q_a2 q_a3 (by kernel_rfl) law22_ConversionSharesReject_a5 (by kernel_rfl) q_a7 (by kernel_rfl) q_a9 law22_ConversionSharesReject_b1 law22_ConversionSharesReject_b2 law22_ConversionSharesReject_b3 law22_ConversionSharesReject_b4 (by kernel_rfl) (by kernel_rfl) (by kernel_rfl) (by kernel_rfl) (by kernel_rfl)
    (by kernel_rfl) (by kernel_rfl) (by kernel_rfl) (by kernel_rfl) (by kernel_rfl) (by kernel_rfl) q_c7 q_c8 (by rw [q_c9]; rfl) (by rw [q_d1]; rfl) (by kernel_rfl) (by kernel_rfl) (by kernel_rfl) (by kernel_rfl)
theorem law22_ConversionSharesReject_inst : Try.f6.isInstance Try.pinned.checked.prog Rows.conversionSharesRejectRow.origin Rows.conversionSharesRejectRow.targs := of_decide_eq_true (by kernel_rfl)
theorem law22_ConversionSharesReject_said : Rows.ConversionSharesRejectSaid :=
  OpenClaim.holds_of_wide 6 Try.f6 rfl rfl rfl rfl rfl rfl rfl ⟨rfl, rfl, rfl, rfl, rfl⟩ rfl rfl rfl rfl rfl law22_ConversionSharesReject_hfn Try.func6 law22_ConversionSharesReject_closed
    law22_ConversionSharesReject_inst (by unfold Func.isWrapper; first | (rw [if_pos (by decide +kernel)]; kernel_rfl) | (rw [if_neg (by decide +kernel)]; exact ⟨rfl, rfl⟩))
    (fun os started H enc _ => law22_ConversionSharesReject_lifted os started H enc)
#print axioms law22_ConversionSharesReject_said
end Go.Proofs.Ytklbaihmajbbdaa
