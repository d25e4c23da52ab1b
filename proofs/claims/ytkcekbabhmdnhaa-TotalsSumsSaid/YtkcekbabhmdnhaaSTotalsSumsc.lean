/- The law TotalsSums returns true for every input, and its arguments read afterwards as before. No condition. -/
import Derived.Test.YtkcekbabhmdnhaaSTotalsSumsb
set_option linter.all false
set_option maxRecDepth 100000
namespace Go.Proofs.Ytkcekbabhmdnhaa
open Go.Ax Go.ChangeShapes Go.WideShapes Go.ChangeAt Go.RowKit
theorem law18_TotalsSums_a1 : Rows.totalsSumsRow.wf (OpenSpec.ofChange Rows.totalsSumsSpec) = true := by kernel_rfl
theorem law18_TotalsSums_a5 : namedTie Try.prog Rows.totalsSumsRow.named Rows.totalsSumsSpec.vars = true := by kernel_rfl
theorem law18_TotalsSums_hfn : Try.pinned.checked.prog.funcNamed Rows.totalsSumsRow.func = some 5 := by kernel_rfl
theorem law18_TotalsSums_closed : joinedFacts Try.prog 5 Try.f5 Rows.totalsSumsSpec Rows.totalsSumsRow = true :=
  joined_mk law18_TotalsSums_a1 q_a2 q_a3 (by kernel_rfl) law18_TotalsSums_a5 (by kernel_rfl) q_a7 (by kernel_rfl) q_a9 law18_TotalsSums_b1 law18_TotalsSums_b2 law18_TotalsSums_b3 law18_TotalsSums_b4 (by kernel_rfl) (by kernel_rfl) (by kernel_rfl) (by kernel_rfl) (by kernel_rfl)
    (by kernel_rfl) (by kernel_rfl) (by kernel_rfl) (by kernel_rfl) (by kernel_rfl) (by kernel_rfl) q_c7 q_c8 (by rw [q_c9]; rfl) (by rw [q_d1]; rfl) (by kernel_rfl) (by kernel_rfl) (by kernel_rfl) (by kernel_rfl)
theorem law18_TotalsSums_inst : Try.f5.isInstance Try.pinned.checked.prog Rows.totalsSumsRow.origin Rows.totalsSumsRow.targs := of_decide_eq_true (by kernel_rfl)
theorem law18_TotalsSums_said : Rows.TotalsSumsSaid :=
  OpenClaim.holds_of_wide 5 Try.f5 rfl rfl rfl rfl rfl rfl rfl ⟨rfl, rfl, rfl, rfl, rfl⟩ rfl rfl rfl rfl rfl law18_TotalsSums_hfn Try.func5 law18_TotalsSums_closed
    law18_TotalsSums_inst (by unfold Func.isWrapper; first | (rw [if_pos (by decide +kernel)]; kernel_rfl) | (rw [if_neg (by decide +kernel)]; exact ⟨rfl, rfl⟩))
    (fun os started H enc _ => law18_TotalsSums_lifted os started H enc)
#print axioms law18_TotalsSums_said
end Go.Proofs.Ytkcekbabhmdnhaa
