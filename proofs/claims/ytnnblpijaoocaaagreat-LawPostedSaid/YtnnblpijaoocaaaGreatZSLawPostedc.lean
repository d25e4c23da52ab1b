import Derived.Test.YtnnblpijaoocaaaGreatZSLawPosteda
import Derived.Test.YtnnblpijaoocaaaGreatZRLawPosted
/- The law LawPosted returns true for every input, and its arguments read afterwards as before. No condition. -/
set_option linter.all false
set_option maxRecDepth 100000
namespace Go.Proofs.YtnnblpijaoocaaaGreat
open Go.Ax Go.ChangeShapes Go.WideShapes Go.ChangeAt Go.RowKit
theorem Ai:Rows.lawPostedRow.wf (OpenSpec.ofChange Rows.lawPostedSpec) = true:=by kernel_rfl
theorem Aa:namedTie Tryz.prog Rows.lawPostedRow.named Rows.lawPostedSpec.vars = true:=by kernel_rfl
theorem yc:Tryz.pinned.checked.prog.funcNamed Rows.lawPostedRow.func = some 4:=by kernel_rfl
theorem ub:joinedFacts Tryz.prog 4 Tryz.f4 Rows.lawPostedSpec Rows.lawPostedRow = true :=
  Hc Ai Ng S8 (by kernel_rfl) Aa (by kernel_rfl) SX (by kernel_rfl) SV Ad zW zo yX (by kernel_rfl) (by kernel_rfl) (by kernel_rfl) (by kernel_rfl) (by kernel_rfl)
    (by kernel_rfl) (by kernel_rfl) (by kernel_rfl) (by kernel_rfl) (by kernel_rfl) (by kernel_rfl) Th Tl (by rw [S5];rfl) (by rw [SR];rfl) (by kernel_rfl) (by kernel_rfl) (by kernel_rfl) (by kernel_rfl)
theorem wB:Tryz.f4.isInstance Tryz.pinned.checked.prog Rows.lawPostedRow.origin Rows.lawPostedRow.targs:=of_decide_eq_true (by kernel_rfl)
theorem law15_LawPosted_said:Rows.LawPostedSaid :=
  OpenClaim.holds_of_wide 4 Tryz.f4 rfl rfl rfl rfl rfl rfl rfl ⟨rfl,rfl,rfl,rfl,rfl⟩ rfl rfl rfl rfl rfl yc Tryz.func4 ub
    wB (by unfold Func.isWrapper;first | (rw [if_pos (by decide +kernel)];kernel_rfl) | (rw [if_neg (by decide +kernel)];exact ⟨rfl,rfl⟩))
    (fun os started H enc _=>ul os started H enc)
#print axioms law15_LawPosted_said
end Go.Proofs.YtnnblpijaoocaaaGreat
