import Derived.Test.YtnnblpijaoocaaaGreatWSLawArrivala
import Derived.Test.YtnnblpijaoocaaaGreatWRLawArrival
/- The law LawArrival returns true for every input, and its arguments read afterwards as before. No condition. -/
set_option linter.all false
set_option maxRecDepth 100000
namespace Go.Proofs.YtnnblpijaoocaaaGreat
open Go.Ax Go.ChangeShapes Go.WideShapes Go.ChangeAt Go.RowKit
theorem wW:Rows.lawArrivalRow.wf (OpenSpec.ofChange Rows.lawArrivalSpec) = true:=by kernel_rfl
theorem wD:namedTie Tryz.prog Rows.lawArrivalRow.named Rows.lawArrivalSpec.vars = true:=by kernel_rfl
theorem vo:Tryz.pinned.checked.prog.funcNamed Rows.lawArrivalRow.func = some 10:=by kernel_rfl
theorem rB:joinedFacts Tryz.prog 10 Tryz.f10 Rows.lawArrivalSpec Rows.lawArrivalRow = true :=
  MI wW QM Sh (by kernel_rfl) wD (by kernel_rfl) R0 (by kernel_rfl) RW wN wS wP wX (by kernel_rfl) (by kernel_rfl) (by kernel_rfl) (by kernel_rfl) (by kernel_rfl)
    (by kernel_rfl) (by kernel_rfl) (by kernel_rfl) (by kernel_rfl) (by kernel_rfl) (by kernel_rfl) Sc R8 (by rw [R5];rfl) (by rw [Se];rfl) (by kernel_rfl) (by kernel_rfl) (by kernel_rfl) (by kernel_rfl)
theorem tA:Tryz.f10.isInstance Tryz.pinned.checked.prog Rows.lawArrivalRow.origin Rows.lawArrivalRow.targs:=of_decide_eq_true (by kernel_rfl)
theorem law15_LawArrival_said:Rows.LawArrivalSaid :=
  OpenClaim.holds_of_wide 10 Tryz.f10 rfl rfl rfl rfl rfl rfl rfl ⟨rfl,rfl,rfl,rfl,rfl⟩ rfl rfl rfl rfl rfl vo Tryz.func10 rB
    tA (by unfold Func.isWrapper;first | (rw [if_pos (by decide +kernel)];kernel_rfl) | (rw [if_neg (by decide +kernel)];exact ⟨rfl,rfl⟩))
    (fun os started H enc _=>rD os started H enc)
#print axioms law15_LawArrival_said
end Go.Proofs.YtnnblpijaoocaaaGreat
