/- The law CoverageRanks returns true for every input, and its arguments read afterwards as before. No condition. -/
import Derived.Test.YtepnedfnpbakeaaSCoverageRanksb
set_option linter.all false
set_option maxRecDepth 100000
namespace Go.Proofs.Ytepnedfnpbakeaa
open Go.Ax Go.ChangeShapes Go.WideShapes Go.ChangeAt Go.RowKit
theorem law16_CoverageRanks_a1 : Rows.coverageRanksRow.wf (OpenSpec.ofChange Rows.coverageRanksSpec) = true := by kernel_rfl
theorem law16_CoverageRanks_a5 : namedTie Try.prog Rows.coverageRanksRow.named Rows.coverageRanksSpec.vars = true := by kernel_rfl
theorem law16_CoverageRanks_hfn : Try.pinned.checked.prog.funcNamed Rows.coverageRanksRow.func = some 3 := by kernel_rfl
theorem law16_CoverageRanks_closed : joinedFacts Try.prog 3 Try.f3 Rows.coverageRanksSpec Rows.coverageRanksRow = true :=
  joined_mk law16_CoverageRanks_a1 q_a2 q_a3 (by kernel_rfl) law16_CoverageRanks_a5 (by kernel_rfl) q_a7 (by kernel_rfl) q_a9 law16_CoverageRanks_b1 law16_CoverageRanks_b2 law16_CoverageRanks_b3 law16_CoverageRanks_b4 (by kernel_rfl) (by kernel_rfl) (by kernel_rfl) (by kernel_rfl) (by kernel_rfl)
    (by kernel_rfl) (by kernel_rfl) (by kernel_rfl) (by kernel_rfl) (by kernel_rfl) (by kernel_rfl) q_c7 q_c8 (by rw [q_c9]; rfl) (by rw [q_d1]; rfl) (by kernel_rfl) (by kernel_rfl) (by kernel_rfl) (by kernel_rfl)
theorem law16_CoverageRanks_inst : Try.f3.isInstance Try.pinned.checked.prog Rows.coverageRanksRow.origin Rows.coverageRanksRow.targs := of_decide_eq_true (by kernel_rfl)
theorem law16_CoverageRanks_said : Rows.CoverageRanksSaid :=
  OpenClaim.holds_of_wide 3 Try.f3 rfl rfl rfl rfl rfl rfl rfl ⟨rfl, rfl, rfl, rfl, rfl⟩ rfl rfl rfl rfl rfl law16_CoverageRanks_hfn Try.func3 law16_CoverageRanks_closed
    law16_CoverageRanks_inst (by unfold Func.isWrapper; first | (rw [if_pos (by decide +kernel)]; kernel_rfl) | (rw [if_neg (by decide +kernel)]; exact ⟨rfl, rfl⟩))
    (fun os started H enc _ => law16_CoverageRanks_lifted os started H enc)
#print axioms law16_CoverageRanks_said
end Go.Proofs.Ytepnedfnpbakeaa
