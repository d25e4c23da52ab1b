/- The law CoverageSelects returns true for every input, and its arguments read afterwards as before. No condition. -/
import Derived.Test.YtepnedfnpbakeaaSCoverageSelectsb
set_option linter.all false
set_option maxRecDepth 100000
namespace Go.Proofs.Ytepnedfnpbakeaa
open Go.Ax Go.ChangeShapes Go.WideShapes Go.ChangeAt Go.RowKit
theorem law16_CoverageSelects_a1 : Rows.coverageSelectsRow.wf (OpenSpec.ofChange Rows.coverageSelectsSpec) = true := by kernel_rfl
theorem law16_CoverageSelects_a5 : namedTie Try.prog Rows.coverageSelectsRow.named Rows.coverageSelectsSpec.vars = true := by kernel_rfl
theorem law16_CoverageSelects_hfn : Try.pinned.checked.prog.funcNamed Rows.coverageSelectsRow.func = some 4 := by kernel_rfl
theorem law16_CoverageSelects_closed : joinedFacts Try.prog 4 Try.f4 Rows.coverageSelectsSpec Rows.coverageSelectsRow = true :=
  joined_mk law16_CoverageSelects_a1 q_a2 q_a3 (by kernel_rfl) law16_CoverageSelects_a5 (by kernel_rfl) q_a7 (by kernel_rfl) q_a9 law16_CoverageSelects_b1 law16_CoverageSelects_b2 law16_CoverageSelects_b3 law16_CoverageSelects_b4 (by kernel_rfl) (by kernel_rfl) (by kernel_rfl) (by kernel_rfl) (by kernel_rfl)
    (by kernel_rfl) (by kernel_rfl) (by kernel_rfl) (by kernel_rfl) (by kernel_rfl) (by kernel_rfl) q_c7 q_c8 (by rw [q_c9]; rfl) (by rw [q_d1]; rfl) (by kernel_rfl) (by kernel_rfl) (by kernel_rfl) (by kernel_rfl)
theorem law16_CoverageSelects_inst : Try.f4.isInstance Try.pinned.checked.prog Rows.coverageSelectsRow.origin Rows.coverageSelectsRow.targs := of_decide_eq_true (by kernel_rfl)
theorem law16_CoverageSelects_said : Rows.CoverageSelectsSaid :=
  OpenClaim.holds_of_wide 4 Try.f4 rfl rfl rfl rfl rfl rfl rfl ⟨rfl, rfl, rfl, rfl, rfl⟩ rfl rfl rfl rfl rfl law16_CoverageSelects_hfn Try.func4 law16_CoverageSelects_closed
    law16_CoverageSelects_inst (by unfold Func.isWrapper; first | (rw [if_pos (by decide +kernel)]; kernel_rfl) | (rw [if_neg (by decide +kernel)]; exact ⟨rfl, rfl⟩))
    (fun os started H enc _ => law16_CoverageSelects_lifted os started H enc)
#print axioms law16_CoverageSelects_said
end Go.Proofs.Ytepnedfnpbakeaa
