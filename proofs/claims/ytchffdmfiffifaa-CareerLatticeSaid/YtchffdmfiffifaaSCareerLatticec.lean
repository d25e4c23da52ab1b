/- The law CareerLattice returns true for every input, and its arguments read afterwards as before. No condition. -/
import Derived.Test.YtchffdmfiffifaaSCareerLatticeb
set_option linter.all false
set_option maxRecDepth 100000
namespace Go.Proofs.Ytchffdmfiffifaa
open Go.Ax Go.ChangeShapes Go.WideShapes Go.ChangeAt Go.RowKit
theorem law13_CareerLattice_a1 : Rows.careerLatticeRow.wf (OpenSpec.ofChange Rows.careerLatticeSpec) = true := by kernel_rfl
theorem law13_CareerLattice_a5 : namedTie Try.prog Rows.careerLatticeRow.named Rows.careerLatticeSpec.vars = true := by kernel_rfl
theorem law13_CareerLattice_hfn : Try.pinned.checked.prog.funcNamed Rows.careerLatticeRow.func = some 5 := by kernel_rfl
theorem law13_CareerLattice_closed : joinedFacts Try.prog 5 Try.f5 Rows.careerLatticeSpec Rows.careerLatticeRow = true :=
  joined_mk law13_CareerLattice_a1 q_a2 q_a3 (by kernel_rfl) law13_CareerLattice_a5 (by kernel_rfl) q_a7 (by kernel_rfl) q_a9 law13_CareerLattice_b1 law13_CareerLattice_b2 law13_CareerLattice_b3 law13_CareerLattice_b4 (by kernel_rfl) (by kernel_rfl) (by kernel_rfl) (by kernel_rfl) (by kernel_rfl)
    (by kernel_rfl) (by kernel_rfl) (by kernel_rfl) (by kernel_rfl) (by kernel_rfl) (by kernel_rfl) q_c7 q_c8 (by rw [q_c9]; rfl) (by rw [q_d1]; rfl) (by kernel_rfl) (by kernel_rfl) (by kernel_rfl) (by kernel_rfl)
theorem law13_CareerLattice_inst : Try.f5.isInstance Try.pinned.checked.prog Rows.careerLatticeRow.origin Rows.careerLatticeRow.targs := of_decide_eq_true (by kernel_rfl)
theorem law13_CareerLattice_said : Rows.CareerLatticeSaid :=
  OpenClaim.holds_of_wide 5 Try.f5 rfl rfl rfl rfl rfl rfl rfl ⟨rfl, rfl, rfl, rfl, rfl⟩ rfl rfl rfl rfl rfl law13_CareerLattice_hfn Try.func5 law13_CareerLattice_closed
    law13_CareerLattice_inst (by unfold Func.isWrapper; first | (rw [if_pos (by decide +kernel)]; kernel_rfl) | (rw [if_neg (by decide +kernel)]; exact ⟨rfl, rfl⟩))
    (fun os started H enc _ => law13_CareerLattice_lifted os started H enc)
#print axioms law13_CareerLattice_said
end Go.Proofs.Ytchffdmfiffifaa
