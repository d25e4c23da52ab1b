/- The law TotalsGrow returns true for every input, and its arguments read afterwards as before. No condition. -/
import Derived.Test.YtkcekbabhmdnhaaSTotalsGrowb
set_option linter.all false
set_option maxRecDepth 100000
namespace Go.Proofs.Ytkcekbabhmdnhaa
open Go.Ax Go.ChangeShapes Go.WideShapes Go.ChangeAt Go.RowKit
theorem law18_TotalsGrow_a1 : Rows.totalsGrowRow.wf (OpenSpec.ofChange Rows.totalsGrowSpec) = true := by kernel_rfl
theorem law18_TotalsGrow_a5 : namedTie Try.prog Rows.totalsGrowRow.named Rows.totalsGrowSpec.vars = true := by kernel_rfl
theorem law18_TotalsGrow_hfn : Try.pinned.checked.prog.funcNamed Rows.totalsGrowRow.func = some 6 := by kernel_rfl
theorem law18_TotalsGrow_closed : joinedFacts Try.prog 6 Try.f6 Rows.totalsGrowSpec Rows.totalsGrowRow = true :=
  joined_mk law18_TotalsGrow_a1 q_a2 q_a3 (by kernel_rfl) law18_TotalsGrow_a5 (by kernel_rfl) q_a7 (by kernel_rfl) q_a9 law18_TotalsGrow_b1 law18_TotalsGrow_b2 law18_TotalsGrow_b3 law18_TotalsGrow_b4 (by kernel_rfl) (by kernel_rfl) (by kernel_rfl) (by kernel_rfl) (by kernel_rfl)
    (by kernel_rfl) (by kernel_rfl) (by kernel_rfl) (by kernel_rfl) (by kernel_rfl) (by kernel_rfl) q_c7 q_c8 (by rw [q_c9]; rfl) (by rw [q_d1]; rfl) (by kernel_rfl) (by kernel_rfl) (by kernel_rfl) (by kernel_rfl)
theorem law18_TotalsGrow_inst : Try.f6.isInstance Try.pinned.checked.prog Rows.totalsGrowRow.origin Rows.totalsGrowRow.targs := of_decide_eq_true (by kernel_rfl)
theorem law18_TotalsGrow_said : Rows.TotalsGrowSaid :=
  OpenClaim.holds_of_wide 6 Try.f6 rfl rfl rfl rfl rfl rfl rfl ⟨rfl, rfl, rfl, rfl, rfl⟩ rfl rfl rfl rfl rfl law18_TotalsGrow_hfn Try.func6 law18_TotalsGrow_closed
    law18_TotalsGrow_inst (by unfold Func.isWrapper; first | (rw [if_pos (by decide +kernel)]; kernel_rfl) | (rw [if_neg (by decide +kernel)]; exact ⟨rfl, rfl⟩))
    (fun os started H enc _ => law18_TotalsGrow_lifted os started H enc)
#print axioms law18_TotalsGrow_said
end Go.Proofs.Ytkcekbabhmdnhaa
