/- The law ConversionIsIdempotent returns true for every input, and its arguments read afterwards as before. No condition. -/
import Derived.Test.YtklbaihmajbbdaaSConversionIsIdempotentb
set_option linter.all false
set_option maxRecDepth 100000
namespace Go.Proofs.Ytklbaihmajbbdaa
open Go.Ax Go.ChangeShapes Go.WideShapes Go.ChangeAt Go.RowKit
theorem law22_ConversionIsIdempotent_a1 : Rows.conversionIsIdempotentRow.wf (OpenSpec.ofChange Rows.conversionIsIdempotentSpec) = true := by kernel_rfl
theorem law22_ConversionIsIdempotent_a5 : namedTie Try.prog Rows.conversionIsIdempotentRow.named Rows.conversionIsIdempotentSpec.vars = true := by kernel_rfl
theorem law22_ConversionIsIdempotent_hfn : Try.pinned.checked.prog.funcNamed Rows.conversionIsIdempotentRow.func = some 5 := by kernel_rfl
theorem law22_ConversionIsIdempotent_closed : joinedFacts Try.prog 5 Try.f5 Rows.conversionIsIdempotentSpec Rows.conversionIsIdempotentRow = true :=
  joined_mk law22_ConversionIsIdempotent_a1 q_a2 q_a3 (by kernel_rfl) law22_ConversionIsIdempotent_a5 (by kernel_rfl) q_a7 (by kernel_rfl) q_a9 law22_ConversionIsIdempotent_b1 law22_ConversionIsIdempotent_b2 law22_ConversionIsIdempotent_b3 law22_ConversionIsIdempotent_b4 (by kernel_rfl) (by kernel_rfl) (by kernel_rfl) (by kernel_rfl) (by kernel_rfl)
    (by kernel_rfl) (by kernel_rfl) (by kernel_rfl) (by kernel_rfl) (by kernel_rfl) (by kernel_rfl) q_c7 q_c8 (by rw [q_c9]; rfl) (by rw [q_d1]; rfl) (by kernel_rfl) (by kernel_rfl) (by kernel_rfl) (by kernel_rfl)
theorem law22_ConversionIsIdempotent_inst : Try.f5.isInstance Try.pinned.checked.prog Rows.conversionIsIdempotentRow.origin Rows.conversionIsIdempotentRow.targs := of_decide_eq_true (by kernel_rfl)
theorem law22_ConversionIsIdempotent_said : Rows.ConversionIsIdempotentSaid :=
  OpenClaim.holds_of_wide 5 Try.f5 rfl rfl rfl rfl rfl rfl rfl ⟨rfl, rfl, rfl, rfl, rfl⟩ rfl rfl rfl rfl rfl law22_ConversionIsIdempotent_hfn Try.func5 law22_ConversionIsIdempotent_closed
    law22_ConversionIsIdempotent_inst (by unfold Func.isWrapper; first | (rw [if_pos (by decide +kernel)]; kernel_rfl) | (rw [if_neg (by decide +kernel)]; exact ⟨rfl, rfl⟩))
    (fun os started H enc _ => law22_ConversionIsIdempotent_lifted os started H enc)
#print axioms law22_ConversionIsIdempotent_said
end Go.Proofs.Ytklbaihmajbbdaa
