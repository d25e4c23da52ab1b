/- The law ConversionSharesAgree returns true for every input, and its arguments read afterwards as before. No condition. -/
import Derived.Test.YtklbaihmajbbdaaSConversionSharesAgreeb
set_option linter.all false
set_option maxRecDepth 100000
namespace Go.Proofs.Ytklbaihmajbbdaa
open Go.Ax Go.ChangeShapes Go.WideShapes Go.ChangeAt Go.RowKit
theorem law22_ConversionSharesAgree_a1 : Rows.conversionSharesAgreeRow.wf (OpenSpec.ofChange Rows.conversionSharesAgreeSpec) = true := by kernel_rfl
theorem law22_ConversionSharesAgree_a5 : namedTie Try.prog Rows.conversionSharesAgreeRow.named Rows.conversionSharesAgreeSpec.vars = true := by kernel_rfl
theorem law22_ConversionSharesAgree_hfn : Try.pinned.checked.prog.funcNamed Rows.conversionSharesAgreeRow.func = some 10 := by kernel_rfl
theorem law22_ConversionSharesAgree_closed : joinedFacts Try.prog 10 Try.f10 Rows.conversionSharesAgreeSpec Rows.conversionSharesAgreeRow = true :=
  joined_mk law22_ConversionSharesAgree_a1 q_a2 q_a3 (by kernel_rfl) law22_ConversionSharesAgree_a5 (by kernel_rfl) q_a7 (by kernel_rfl) q_a9 law22_ConversionSharesAgree_b1 law22_ConversionSharesAgree_b2 law22_ConversionSharesAgree_b3 law22_ConversionSharesAgree_b4 (by kernel_rfl) (by kernel_rfl) (by kernel_rfl) (by kernel_rfl) (by kernel_rfl)
    (by kernel_rfl) (by kernel_rfl) (by kernel_rfl) (by kernel_rfl) (by kernel_rfl) (by kernel_rfl) q_c7 q_c8 (by rw [q_c9]; rfl) (by rw [q_d1]; rfl) (by kernel_rfl) (by kernel_rfl) (by kernel_rfl) (by kernel_rfl)
theorem law22_ConversionSharesAgree_inst : Try.f10.isInstance Try.pinned.checked.prog Rows.conversionSharesAgreeRow.origin Rows.conversionSharesAgreeRow.targs := of_decide_eq_true (by kernel_rfl)
theorem law22_ConversionSharesAgree_said : Rows.ConversionSharesAgreeSaid :=
  OpenClaim.holds_of_wide 10 Try.f10 rfl rfl rfl rfl rfl rfl rfl ⟨rfl, rfl, rfl, rfl, rfl⟩ rfl rfl rfl rfl rfl law22_ConversionSharesAgree_hfn Try.func10 law22_ConversionSharesAgree_closed
    law22_ConversionSharesAgree_inst (by unfold Func.isWrapper; first | (rw [if_pos (by decide +kernel)]; kernel_rfl) | (rw [if_neg (by decide +kernel)]; exact ⟨rfl, rfl⟩))
    (fun os started H enc _ => law22_ConversionSharesAgree_lifted os started H enc)
#print axioms law22_ConversionSharesAgree_said
end Go.Proofs.Ytklbaihmajbbdaa
