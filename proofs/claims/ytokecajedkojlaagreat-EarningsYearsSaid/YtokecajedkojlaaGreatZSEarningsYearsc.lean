import Derived.Test.YtokecajedkojlaaGreatZSEarningsYearsa
import Derived.Test.YtokecajedkojlaaGreatZSEarningsYearsb
import Derived.Test.YtokecajedkojlaaGreatZREarningsYears
/- The law EarningsYears returns true for every input, and its arguments read afterwards as before. No condition. -/
set_option linter.all false
set_option maxRecDepth 100000
namespace Go.Proofs.YtokecajedkojlaaGreat
open Go.Ax Go.ChangeShapes Go.WideShapes Go.ChangeAt Go.RowKit
theorem w7:Rows.earningsYearsRow.wf (OpenSpec.ofChange Rows.earningsYearsSpec) = true:=by kernel_rfl
theorem wl:namedTie Tryz.prog Rows.earningsYearsRow.named Rows.earningsYearsSpec.vars = true:=by kernel_rfl
theorem vf:Tryz.pinned.checked.prog.funcNamed Rows.earningsYearsRow.func = some 5:=by kernel_rfl
theorem sA:joinedFacts Tryz.prog 5 Tryz.f5 Rows.earningsYearsSpec Rows.earningsYearsRow = true :=
  SD w7 VD Wz (by kernel_rfl) wl (by kernel_rfl) Ws (by kernel_rfl) Wy wO xa xg wj (by kernel_rfl) (by kernel_rfl) (by kernel_rfl) (by kernel_rfl) (by kernel_rfl)
    (by kernel_rfl) (by kernel_rfl) (by kernel_rfl) (by kernel_rfl) (by kernel_rfl) (by kernel_rfl) WA Wp (by rw [Wr]; rfl) (by rw [Wq]; rfl) (by kernel_rfl) (by kernel_rfl) (by kernel_rfl) (by kernel_rfl)
theorem uV:Tryz.f5.isInstance Tryz.pinned.checked.prog Rows.earningsYearsRow.origin Rows.earningsYearsRow.targs:=of_decide_eq_true (by kernel_rfl)
theorem law19_EarningsYears_said:Rows.EarningsYearsSaid :=
  OpenClaim.holds_of_wide 5 Tryz.f5 rfl rfl rfl rfl rfl rfl rfl ⟨rfl,rfl,rfl,rfl,rfl⟩ rfl rfl rfl rfl rfl vf Tryz.func5 sA
    uV (by unfold Func.isWrapper; first | (rw [if_pos (by decide +kernel)]; kernel_rfl) | (rw [if_neg (by decide +kernel)]; exact ⟨rfl,rfl⟩))
    (fun os started H enc _=>sE os started H enc)
#print axioms law19_EarningsYears_said
end Go.Proofs.YtokecajedkojlaaGreat
