/- The law CoverageRaw returns true for every input, and its arguments read afterwards as before. No condition. -/
import Derived.Test.YtgamnldjlncdlaaGreatZSCoverageRawb
set_option linter.all false
set_option maxRecDepth 100000
namespace Go.Proofs.YtgamnldjlncdlaaGreat
open Go.Ax Go.ChangeShapes Go.WideShapes Go.ChangeAt Go.RowKit
theorem EY:Rows.coverageRawRow.wf (OpenSpec.ofChange Rows.coverageRawSpec) = true:=by kernel_rfl
theorem E7:namedTie Tryz.prog Rows.coverageRawRow.named Rows.coverageRawSpec.vars = true:=by kernel_rfl
theorem BU:Tryz.pinned.checked.prog.funcNamed Rows.coverageRawRow.func = some 3:=by kernel_rfl
theorem zE:joinedFacts Tryz.prog 3 Tryz.f3 Rows.coverageRawSpec Rows.coverageRawRow = true :=
  W8 EY alA aqr (by kernel_rfl) E7 (by kernel_rfl) aqw (by kernel_rfl) aqs Ew Fp EC Ej (by kernel_rfl) (by kernel_rfl) (by kernel_rfl) (by kernel_rfl) (by kernel_rfl)
    (by kernel_rfl) (by kernel_rfl) (by kernel_rfl) (by kernel_rfl) (by kernel_rfl) (by kernel_rfl) aqh aqQ (by rw [aq6]; rfl) (by rw [aq3]; rfl) (by kernel_rfl) (by kernel_rfl) (by kernel_rfl) (by kernel_rfl)
theorem BG:Tryz.f3.isInstance Tryz.pinned.checked.prog Rows.coverageRawRow.origin Rows.coverageRawRow.targs:=of_decide_eq_true (by kernel_rfl)
theorem law16_CoverageRaw_said:Rows.CoverageRawSaid :=
  OpenClaim.holds_of_wide 3 Tryz.f3 rfl rfl rfl rfl rfl rfl rfl ⟨rfl,rfl,rfl,rfl,rfl⟩ rfl rfl rfl rfl rfl BU Tryz.func3 zE
    BG (by unfold Func.isWrapper; first | (rw [if_pos (by decide +kernel)]; kernel_rfl) | (rw [if_neg (by decide +kernel)]; exact ⟨rfl,rfl⟩))
    (fun os started H enc _=>yR os started H enc)
#print axioms law16_CoverageRaw_said
end Go.Proofs.YtgamnldjlncdlaaGreat
