/- The law ConversionLeavesNoPair returns true for every input, and its arguments read afterwards as before. No condition. -/
import Derived.Test.YtklbaihmajbbdaaSConversionLeavesNoPairb
set_option linter.all false
set_option maxRecDepth 100000
namespace Go.Proofs.Ytklbaihmajbbdaa
open Go.Ax Go.ChangeShapes Go.WideShapes Go.ChangeAt Go.RowKit
theorem law22_ConversionLeavesNoPair_a1 : Rows.conversionLeavesNoPairRow.wf (OpenSpec.ofChange Rows.conversionLeavesNoPairSpec) = true := by kernel_rfl
theorem law22_ConversionLeavesNoPair_a5 : namedTie Try.prog Rows.conversionLeavesNoPairRow.named Rows.conversionLeavesNoPairSpec.vars = true := by kernel_rfl
theorem law22_ConversionLeavesNoPair_hfn : Try.pinned.checked.prog.funcNamed Rows.conversionLeavesNoPairRow.func = some 4 := by kernel_rfl
theorem law22_ConversionLeavesNoPair_closed : joinedFacts Try.prog 4 Try.f4 Rows.conversionLeavesNoPairSpec Rows.conversionLeavesNoPairRow = true :=
  joined_mk law22_ConversionLeavesNoPair_a1 q_a2 q_a3 (by kernel_rfl) law22_ConversionLeavesNoPair_a5 (by kernel_rfl) q_a7 (by kernel_rfl) q_a9 law22_ConversionLeavesNoPair_b1 law22_ConversionLeavesNoPair_b2 law22_ConversionLeavesNoPair_b3 law22_ConversionLeavesNoPair_b4 (by kernel_rfl) (by kernel_rfl) (by kernel_rfl) (by kernel_rfl) (by kernel_rfl)
    (by kernel_rfl) (by kernel_rfl) (by kernel_rfl) (by kernel_rfl) (by kernel_rfl) (by kernel_rfl) q_c7 q_c8 (by rw [q_c9]; rfl) (by rw [q_d1]; rfl) (by kernel_rfl) (by kernel_rfl) (by kernel_rfl) (by kernel_rfl)
theorem law22_ConversionLeavesNoPair_inst : Try.f4.isInstance Try.pinned.checked.prog Rows.conversionLeavesNoPairRow.origin Rows.conversionLeavesNoPairRow.targs := of_decide_eq_true (by kernel_rfl)
theorem law22_ConversionLeavesNoPair_said : Rows.ConversionLeavesNoPairSaid :=
  OpenClaim.holds_of_wide 4 Try.f4 rfl rfl rfl rfl rfl rfl rfl ⟨rfl, rfl, rfl, rfl, rfl⟩ rfl rfl rfl rfl rfl law22_ConversionLeavesNoPair_hfn Try.func4 law22_ConversionLeavesNoPair_closed
    law22_ConversionLeavesNoPair_inst (by unfold Func.isWrapper; first | (rw [if_pos (by decide +kernel)]; kernel_rfl) | (rw [if_neg (by decide +kernel)]; exact ⟨rfl, rfl⟩))
    (fun os started H enc _ => law22_ConversionLeavesNoPair_lifted os started H enc)
#print axioms law22_ConversionLeavesNoPair_said
end Go.Proofs.Ytklbaihmajbbdaa
