import Derived.Test.YtnnblpijaoocaaaGreatZSLawUndera
import Derived.Test.YtnnblpijaoocaaaGreatZSLawUnderb
import Derived.Test.YtnnblpijaoocaaaGreatZRLawUnder
/- The law LawUnder returns true for every input, and its arguments read afterwards as before. No condition. -/
set_option linter.all false
set_option maxRecDepth 100000
namespace Go.Proofs.YtnnblpijaoocaaaGreat
open Go.Ax Go.ChangeShapes Go.WideShapes Go.ChangeAt Go.RowKit
theorem xA:Rows.lawUnderRow.wf (OpenSpec.ofChange Rows.lawUnderSpec) = true:=by kernel_rfl
theorem xr:namedTie Tryz.prog Rows.lawUnderRow.named Rows.lawUnderSpec.vars = true:=by kernel_rfl
theorem vZ:Tryz.pinned.checked.prog.funcNamed Rows.lawUnderRow.func = some 7:=by kernel_rfl
theorem sr:joinedFacts Tryz.prog 7 Tryz.f7 Rows.lawUnderSpec Rows.lawUnderRow = true :=
  KV xA Nk Oz (by kernel_rfl) xr (by kernel_rfl) OC (by kernel_rfl) Ou xi xu xp xI (by kernel_rfl) (by kernel_rfl) (by kernel_rfl) (by kernel_rfl) (by kernel_rfl)
    (by kernel_rfl) (by kernel_rfl) (by kernel_rfl) (by kernel_rfl) (by kernel_rfl) (by kernel_rfl) Ov Ot (by rw [OA]; rfl) (by rw [Oo]; rfl) (by kernel_rfl) (by kernel_rfl) (by kernel_rfl) (by kernel_rfl)
theorem uW:Tryz.f7.isInstance Tryz.pinned.checked.prog Rows.lawUnderRow.origin Rows.lawUnderRow.targs:=of_decide_eq_true (by kernel_rfl)
theorem law15_LawUnder_said:Rows.LawUnderSaid :=
  OpenClaim.holds_of_wide 7 Tryz.f7 rfl rfl rfl rfl rfl rfl rfl ⟨rfl,rfl,rfl,rfl,rfl⟩ rfl rfl rfl rfl rfl vZ Tryz.func7 sr
    uW (by unfold Func.isWrapper; first | (rw [if_pos (by decide +kernel)]; kernel_rfl) | (rw [if_neg (by decide +kernel)]; exact ⟨rfl,rfl⟩))
    (fun os started H enc _=>rV os started H enc)
#print axioms law15_LawUnder_said
end Go.Proofs.YtnnblpijaoocaaaGreat
