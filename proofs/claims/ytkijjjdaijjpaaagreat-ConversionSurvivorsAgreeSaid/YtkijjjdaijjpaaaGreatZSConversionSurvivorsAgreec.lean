/- The law ConversionSurvivorsAgree returns true for every input, and its arguments read afterwards as before. No condition. -/
import Derived.Test.YtkijjjdaijjpaaaGreatZSConversionSurvivorsAgreeb
set_option linter.all false
set_option maxRecDepth 100000
namespace Go.Proofs.YtkijjjdaijjpaaaGreat
open Go.Ax Go.ChangeShapes Go.WideShapes Go.ChangeAt Go.RowKit
theorem qp : Rows.conversionSurvivorsAgreeRow.wf (OpenSpec.ofChange Rows.conversionSurvivorsAgreeSpec) = true := by kernel_rfl
theorem qF : namedTie Tryz.prog Rows.conversionSurvivorsAgreeRow.named Rows.conversionSurvivorsAgreeSpec.vars = true := by kernel_rfl
theorem p5 : Tryz.pinned.checked.prog.funcNamed Rows.conversionSurvivorsAgreeRow.func = some 3 := by kernel_rfl
theorem oH : joinedFacts Tryz.prog 3 Tryz.f3 Rows.conversionSurvivorsAgreeSpec Rows.conversionSurvivorsAgreeRow = true :=
  RW qp agr akR (by kernel_rfl) qF (by kernel_rfl) akT (by kernel_rfl) ak2 qz ql qK qn (by kernel_rfl) (by kernel_rfl) (by kernel_rfl) (by kernel_rfl) (by kernel_rfl)
    (by kernel_rfl) (by kernel_rfl) (by kernel_rfl) (by kernel_rfl) (by kernel_rfl) (by kernel_rfl) akU ak4 (by rw [akS]; rfl) (by rw [ak0]; rfl) (by kernel_rfl) (by kernel_rfl) (by kernel_rfl) (by kernel_rfl)
theorem pd : Tryz.f3.isInstance Tryz.pinned.checked.prog Rows.conversionSurvivorsAgreeRow.origin Rows.conversionSurvivorsAgreeRow.targs := of_decide_eq_true (by kernel_rfl)
theorem law22_ConversionSurvivorsAgree_said : Rows.ConversionSurvivorsAgreeSaid :=
  OpenClaim.holds_of_wide 3 Tryz.f3 rfl rfl rfl rfl rfl rfl rfl ⟨rfl,rfl,rfl,rfl,rfl⟩ rfl rfl rfl rfl rfl p5 Tryz.func3 oH
    pd (by unfold Func.isWrapper; first | (rw [if_pos (by decide +kernel)]; kernel_rfl) | (rw [if_neg (by decide +kernel)]; exact ⟨rfl,rfl⟩))
    (fun os started H enc _ => oG os started H enc)
#print axioms law22_ConversionSurvivorsAgree_said
end Go.Proofs.YtkijjjdaijjpaaaGreat
