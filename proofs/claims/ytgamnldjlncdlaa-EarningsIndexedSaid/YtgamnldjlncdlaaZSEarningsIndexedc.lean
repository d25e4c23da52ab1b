/- The law EarningsIndexed returns true for every input, and its arguments read afterwards as before. No condition. -/
import Derived.Test.YtgamnldjlncdlaaZSEarningsIndexedb
set_option linter.all false
set_option maxRecDepth 100000
namespace Go.Proofs.Ytgamnldjlncdlaa
open Go.Ax Go.ChangeShapes Go.WideShapes Go.ChangeAt Go.RowKit
theorem pH : Rows.earningsIndexedRow.wf (OpenSpec.ofChange Rows.earningsIndexedSpec) = true := by kernel_rfl
theorem p9 : namedTie Try.prog Rows.earningsIndexedRow.named Rows.earningsIndexedSpec.vars = true := by kernel_rfl
theorem oZ : Try.pinned.checked.prog.funcNamed Rows.earningsIndexedRow.func = some 3 := by kernel_rfl
theorem mD : joinedFacts Try.prog 3 Try.f3 Rows.earningsIndexedSpec Rows.earningsIndexedRow = true :=
  GE pH Ms Qu (by kernel_rfl) p9 (by kernel_rfl) Qz (by kernel_rfl) Qs pE p7 pC p8 (by kernel_rfl) (by kernel_rfl) (by kernel_rfl) (by kernel_rfl) (by kernel_rfl)
    (by kernel_rfl) (by kernel_rfl) (by kernel_rfl) (by kernel_rfl) (by kernel_rfl) (by kernel_rfl) Qr Qv (by rw [QC]; rfl) (by rw [Qy]; rfl) (by kernel_rfl) (by kernel_rfl) (by kernel_rfl) (by kernel_rfl)
theorem om : Try.f3.isInstance Try.pinned.checked.prog Rows.earningsIndexedRow.origin Rows.earningsIndexedRow.targs := of_decide_eq_true (by kernel_rfl)
theorem law19_EarningsIndexed_said : Rows.EarningsIndexedSaid :=
  OpenClaim.holds_of_wide 3 Try.f3 rfl rfl rfl rfl rfl rfl rfl ⟨rfl,rfl,rfl,rfl,rfl⟩ rfl rfl rfl rfl rfl oZ Try.func3 mD
    om (by unfold Func.isWrapper; first | (rw [if_pos (by decide +kernel)]; kernel_rfl) | (rw [if_neg (by decide +kernel)]; exact ⟨rfl,rfl⟩))
    (fun os started H enc _ => mL os started H enc)
#print axioms law19_EarningsIndexed_said
end Go.Proofs.Ytgamnldjlncdlaa
