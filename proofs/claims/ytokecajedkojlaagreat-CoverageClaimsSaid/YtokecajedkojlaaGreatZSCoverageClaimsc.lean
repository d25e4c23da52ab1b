import Derived.Test.YtokecajedkojlaaGreatZSCoverageClaimsa
import Derived.Test.YtokecajedkojlaaGreatZSCoverageClaimsb
import Derived.Test.YtokecajedkojlaaGreatZRCoverageClaims
/- The law CoverageClaims returns true for every input, and its arguments read afterwards as before. No condition. -/
set_option linter.all false
set_option maxRecDepth 100000
namespace Go.Proofs.YtokecajedkojlaaGreat
open Go.Ax Go.ChangeShapes Go.WideShapes Go.ChangeAt Go.RowKit
theorem rI:Rows.coverageClaimsRow.wf (OpenSpec.ofChange Rows.coverageClaimsSpec) = true:=by kernel_rfl
theorem rL:namedTie Tryz.prog Rows.coverageClaimsRow.named Rows.coverageClaimsSpec.vars = true:=by kernel_rfl
theorem rD:Tryz.pinned.checked.prog.funcNamed Rows.coverageClaimsRow.func = some 3:=by kernel_rfl
theorem oI:joinedFacts Tryz.prog 3 Tryz.f3 Rows.coverageClaimsSpec Rows.coverageClaimsRow = true :=
  L7 rI Pq Qu (by kernel_rfl) rL (by kernel_rfl) Qi (by kernel_rfl) Qq rH rM rJ rG (by kernel_rfl) (by kernel_rfl) (by kernel_rfl) (by kernel_rfl) (by kernel_rfl)
    (by kernel_rfl) (by kernel_rfl) (by kernel_rfl) (by kernel_rfl) (by kernel_rfl) (by kernel_rfl) Qk Qr (by rw [Qm]; rfl) (by rw [Qn]; rfl) (by kernel_rfl) (by kernel_rfl) (by kernel_rfl) (by kernel_rfl)
theorem qc:Tryz.f3.isInstance Tryz.pinned.checked.prog Rows.coverageClaimsRow.origin Rows.coverageClaimsRow.targs:=of_decide_eq_true (by kernel_rfl)
theorem law16_CoverageClaims_said:Rows.CoverageClaimsSaid :=
  OpenClaim.holds_of_wide 3 Tryz.f3 rfl rfl rfl rfl rfl rfl rfl ⟨rfl,rfl,rfl,rfl,rfl⟩ rfl rfl rfl rfl rfl rD Tryz.func3 oI
    qc (by unfold Func.isWrapper; first | (rw [if_pos (by decide +kernel)]; kernel_rfl) | (rw [if_neg (by decide +kernel)]; exact ⟨rfl,rfl⟩))
    (fun os started H enc _=>oU os started H enc)
#print axioms law16_CoverageClaims_said
end Go.Proofs.YtokecajedkojlaaGreat
