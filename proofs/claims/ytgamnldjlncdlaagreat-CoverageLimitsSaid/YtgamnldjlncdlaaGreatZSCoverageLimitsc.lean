/- The law CoverageLimits returns true for every input, and its arguments read afterwards as before. No condition. -/
import Derived.Test.YtgamnldjlncdlaaGreatZSCoverageLimitsb
set_option linter.all false
set_option maxRecDepth 100000
namespace Go.Proofs.YtgamnldjlncdlaaGreat
open Go.Ax Go.ChangeShapes Go.WideShapes Go.ChangeAt Go.RowKit
theorem zj:Rows.coverageLimitsRow.wf (OpenSpec.ofChange Rows.coverageLimitsSpec) = true:=by kernel_rfl
theorem zd:namedTie Tryz.prog Rows.coverageLimitsRow.named Rows.coverageLimitsSpec.vars = true:=by kernel_rfl
theorem x6:Tryz.pinned.checked.prog.funcNamed Rows.coverageLimitsRow.func = some 4:=by kernel_rfl
theorem vA:joinedFacts Tryz.prog 4 Tryz.f4 Rows.coverageLimitsSpec Rows.coverageLimitsRow = true :=
  VP zj agM aoD (by kernel_rfl) zd (by kernel_rfl) anX (by kernel_rfl) an4 ze zg zf za (by kernel_rfl) (by kernel_rfl) (by kernel_rfl) (by kernel_rfl) (by kernel_rfl)
    (by kernel_rfl) (by kernel_rfl) (by kernel_rfl) (by kernel_rfl) (by kernel_rfl) (by kernel_rfl) aoz an3 (by rw [aon]; rfl) (by rw [aoI]; rfl) (by kernel_rfl) (by kernel_rfl) (by kernel_rfl) (by kernel_rfl)
theorem xp:Tryz.f4.isInstance Tryz.pinned.checked.prog Rows.coverageLimitsRow.origin Rows.coverageLimitsRow.targs:=of_decide_eq_true (by kernel_rfl)
theorem law16_CoverageLimits_said:Rows.CoverageLimitsSaid :=
  OpenClaim.holds_of_wide 4 Tryz.f4 rfl rfl rfl rfl rfl rfl rfl ⟨rfl,rfl,rfl,rfl,rfl⟩ rfl rfl rfl rfl rfl x6 Tryz.func4 vA
    xp (by unfold Func.isWrapper; first | (rw [if_pos (by decide +kernel)]; kernel_rfl) | (rw [if_neg (by decide +kernel)]; exact ⟨rfl,rfl⟩))
    (fun os started H enc _=>vo os started H enc)
#print axioms law16_CoverageLimits_said
end Go.Proofs.YtgamnldjlncdlaaGreat
