/- The law TotalsAddUp returns true for every input, and its arguments read afterwards as before. No condition. -/
import Derived.Test.YtkcekbabhmdnhaaSTotalsAddUpb
set_option linter.all false
set_option maxRecDepth 100000
namespace Go.Proofs.Ytkcekbabhmdnhaa
open Go.Ax Go.ChangeShapes Go.WideShapes Go.ChangeAt Go.RowKit
theorem law18_TotalsAddUp_a1 : Rows.totalsAddUpRow.wf (OpenSpec.ofChange Rows.totalsAddUpSpec) = true := by kernel_rfl
theorem law18_TotalsAddUp_a5 : namedTie Try.prog Rows.totalsAddUpRow.named Rows.totalsAddUpSpec.vars = true := by kernel_rfl
theorem law18_TotalsAddUp_hfn : Try.pinned.checked.prog.funcNamed Rows.totalsAddUpRow.func = some 7 := by kernel_rfl
theorem law18_TotalsAddUp_closed : joinedFacts Try.prog 7 Try.f7 Rows.totalsAddUpSpec Rows.totalsAddUpRow = true :=
  joined_mk law18_TotalsAddUp_a1 q_a2 q_a3 (by kernel_rfl) law18_TotalsAddUp_a5 (by kernel_rfl) q_a7 (by kernel_rfl) q_a9 law18_TotalsAddUp_b1 law18_TotalsAddUp_b2 law18_TotalsAddUp_b3 law18_TotalsAddUp_b4 (by kernel_rfl) (by kernel_rfl) (by kernel_rfl) (by kernel_rfl) (by kernel_rfl)
    (by kernel_rfl) (by kernel_rfl) (by kernel_rfl) (by kernel_rfl) (by kernel_rfl) (by kernel_rfl) q_c7 q_c8 (by rw [q_c9]; rfl) (by rw [q_d1]; rfl) (by kernel_rfl) (by kernel_rfl) (by kernel_rfl) (by kernel_rfl)
theorem law18_TotalsAddUp_inst : Try.f7.isInstance Try.pinned.checked.prog Rows.totalsAddUpRow.origin Rows.totalsAddUpRow.targs := of_decide_eq_true (by kernel_rfl)
theorem law18_TotalsAddUp_said : Rows.TotalsAddUpSaid :=
  OpenClaim.holds_of_wide 7 Try.f7 rfl rfl rfl rfl rfl rfl rfl ⟨rfl, rfl, rfl, rfl, rfl⟩ rfl rfl rfl rfl rfl law18_TotalsAddUp_hfn Try.func7 law18_TotalsAddUp_closed
    law18_TotalsAddUp_inst (by unfold Func.isWrapper; first | (rw [if_pos (by decide +kernel)]; kernel_rfl) | (rw [if_neg (by decide +kernel)]; exact ⟨rfl, rfl⟩))
    (fun os started H enc _ => law18_TotalsAddUp_lifted os started H enc)
#print axioms law18_TotalsAddUp_said
end Go.Proofs.Ytkcekbabhmdnhaa
