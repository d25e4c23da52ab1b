/- The law CareerArrival returns true for every input, and its arguments read afterwards as before. No condition. -/
import Derived.Test.YtchffdmfiffifaaSCareerArrivalb
set_option linter.all false
set_option maxRecDepth 100000
namespace Go.Proofs.Ytchffdmfiffifaa
open Go.Ax Go.ChangeShapes Go.WideShapes Go.ChangeAt Go.RowKit
theorem law13_CareerArrival_a1 : Rows.careerArrivalRow.wf (OpenSpec.ofChange Rows.careerArrivalSpec) = true := by kernel_rfl
theorem law13_CareerArrival_a5 : namedTie Try.prog Rows.careerArrivalRow.named Rows.careerArrivalSpec.vars = true := by kernel_rfl
theorem law13_CareerArrival_hfn : Try.pinned.checked.prog.funcNamed Rows.careerArrivalRow.func = some 6 := by kernel_rfl
theorem law13_CareerArrival_closed : joinedFacts Try.prog 6 Try.f6 Rows.careerArrivalSpec Rows.careerArrivalRow = true :=
  joined_mk law13_CareerArrival_a1 q_a2 q_a3 (by kernel_rfl) law13_CareerArrival_a5 (by kernel_rfl) q_a7 (by kernel_rfl) q_a9 law13_CareerArrival_b1 law13_CareerArrival_b2 law13_CareerArrival_b3 law13_CareerArrival_b4 (by kernel_rfl) (by kernel_rfl) (by kernel_rfl) (by kernel_rfl) (by kernel_rfl)
    (by kernel_rfl) (by kernel_rfl) (by kernel_rfl) (by kernel_rfl) (by kernel_rfl) (by kernel_rfl) q_c7 q_c8 (by rw [q_c9]; rfl) (by rw [q_d1]; rfl) (by kernel_rfl) (by kernel_rfl) (by kernel_rfl) (by kernel_rfl)
theorem law13_CareerArrival_inst : Try.f6.isInstance Try.pinned.checked.prog Rows.careerArrivalRow.origin Rows.careerArrivalRow.targs := of_decide_eq_true (by kernel_rfl)
theorem law13_CareerArrival_said : Rows.CareerArrivalSaid :=
  OpenClaim.holds_of_wide 6 Try.f6 rfl rfl rfl rfl rfl rfl rfl ⟨rfl, rfl, rfl, rfl, rfl⟩ rfl rfl rfl rfl rfl law13_CareerArrival_hfn Try.func6 law13_CareerArrival_closed
    law13_CareerArrival_inst (by unfold Func.isWrapper; first | (rw [if_pos (by decide +kernel)]; kernel_rfl) | (rw [if_neg (by decide +kernel)]; exact ⟨rfl, rfl⟩))
    (fun os started H enc _ => law13_CareerArrival_lifted os started H enc)
#print axioms law13_CareerArrival_said
end Go.Proofs.Ytchffdmfiffifaa
