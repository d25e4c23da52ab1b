/- The law TotalsFractions returns true for every input, and its arguments read afterwards as before. No condition. -/
import Derived.Test.YtkcekbabhmdnhaaSTotalsFractionsb
set_option linter.all false
set_option maxRecDepth 100000
namespace Go.Proofs.Ytkcekbabhmdnhaa
open Go.Ax Go.ChangeShapes Go.WideShapes Go.ChangeAt Go.RowKit
theorem law18_TotalsFractions_a1 : Rows.totalsFractionsRow.wf (OpenSpec.ofChange Rows.totalsFractionsSpec) = true := by kernel_rfl
theorem law18_TotalsFractions_a5 : namedTie Try.prog Rows.totalsFractionsRow.named Rows.totalsFractionsSpec.vars = true := by kernel_rfl
theorem law18_TotalsFractions_hfn : Try.pinned.checked.prog.funcNamed Rows.totalsFractionsRow.func = some 4 := by kernel_rfl
theorem law18_TotalsFractions_closed : joinedFacts Try.prog 4 Try.f4 Rows.totalsFractionsSpec Rows.totalsFractionsRow = true :=
  joined_mk law18_TotalsFractions_a1 q_a2 q_a3 (by kernel_rfl) law18_TotalsFractions_a5 (by kernel_rfl) q_a7 (by kernel_rfl) q_a9 law18_TotalsFractions_b1 law18_TotalsFractions_b2 law18_TotalsFractions_b3 law18_TotalsFractions_b4 (by kernel_rfl) (by kernel_rfl) (by kernel_rfl) (by kernel_rfl) (by kernel_rfl)
    (by kernel_rfl) (by kernel_rfl) (by kernel_rfl) (by kernel_rfl) (by kernel_rfl) (by kernel_rfl) q_c7 q_c8 (by rw [q_c9]; rfl) (by rw [q_d1]; rfl) (by kernel_rfl) (by kernel_rfl) (by kernel_rfl) (by kernel_rfl)
theorem law18_TotalsFractions_inst : Try.f4.isInstance Try.pinned.checked.prog Rows.totalsFractionsRow.origin Rows.totalsFractionsRow.targs := of_decide_eq_true (by kernel_rfl)
theorem law18_TotalsFractions_said : Rows.TotalsFractionsSaid :=
  OpenClaim.holds_of_wide 4 Try.f4 rfl rfl rfl rfl rfl rfl rfl ⟨rfl, rfl, rfl, rfl, rfl⟩ rfl rfl rfl rfl rfl law18_TotalsFractions_hfn Try.func4 law18_TotalsFractions_closed
    law18_TotalsFractions_inst (by unfold Func.isWrapper; first | (rw [if_pos (by decide +kernel)]; kernel_rfl) | (rw [if_neg (by decide +kernel)]; exact ⟨rfl, rfl⟩))
    (fun os started H enc _ => law18_TotalsFractions_lifted os started H enc)
#print axioms law18_TotalsFractions_said
end Go.Proofs.Ytkcekbabhmdnhaa
