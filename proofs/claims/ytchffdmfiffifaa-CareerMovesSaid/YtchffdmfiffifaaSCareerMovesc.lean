/- The law CareerMoves returns true for every input, and its arguments read afterwards as before. No condition. -/
import Derived.Test.YtchffdmfiffifaaSCareerMovesb
set_option linter.all false
set_option maxRecDepth 100000
namespace Go.Proofs.Ytchffdmfiffifaa
open Go.Ax Go.ChangeShapes Go.WideShapes Go.ChangeAt Go.RowKit
theorem law13_CareerMoves_a1 : Rows.careerMovesRow.wf (OpenSpec.ofChange Rows.careerMovesSpec) = true := by kernel_rfl
theorem law13_CareerMoves_a5 : namedTie Try.prog Rows.careerMovesRow.named Rows.careerMovesSpec.vars = true := by kernel_rfl
theorem law13_CareerMoves_hfn : Try.pinned.checked.prog.funcNamed Rows.careerMovesRow.func = some 9 := by kernel_rfl
theorem law13_CareerMoves_closed : joinedFacts Try.prog 9 Try.f9 Rows.careerMovesSpec Rows.careerMovesRow = true :=
  joined_mk law13_CareerMoves_a1 q_a2 q_a3 (by kernel_rfl) law13_CareerMoves_a5 (by kernel_rfl) q_a7 (by kernel_rfl) q_a9 law13_CareerMoves_b1 law13_CareerMoves_b2 law13_CareerMoves_b3 law13_CareerMoves_b4 (by kernel_rfl) (by kernel_rfl) (by kernel_rfl) (by kernel_rfl) (by kernel_rfl)
    (by kernel_rfl) (by kernel_rfl) (by kernel_rfl) (by kernel_rfl) (by kernel_rfl) (by kernel_rfl) q_c7 q_c8 (by rw [q_c9]; rfl) (by rw [q_d1]; rfl) (by kernel_rfl) (by kernel_rfl) (by kernel_rfl) (by kernel_rfl)
theorem law13_CareerMoves_inst : Try.f9.isInstance Try.pinned.checked.prog Rows.careerMovesRow.origin Rows.careerMovesRow.targs := of_decide_eq_true (by kernel_rfl)
theorem law13_CareerMoves_said : Rows.CareerMovesSaid :=
  OpenClaim.holds_of_wide 9 Try.f9 rfl rfl rfl rfl rfl rfl rfl ⟨rfl, rfl, rfl, rfl, rfl⟩ rfl rfl rfl rfl rfl law13_CareerMoves_hfn Try.func9 law13_CareerMoves_closed
    law13_CareerMoves_inst (by unfold Func.isWrapper; first | (rw [if_pos (by decide +kernel)]; kernel_rfl) | (rw [if_neg (by decide +kernel)]; exact ⟨rfl, rfl⟩))
    (fun os started H enc _ => law13_CareerMoves_lifted os started H enc)
#print axioms law13_CareerMoves_said
end Go.Proofs.Ytchffdmfiffifaa
