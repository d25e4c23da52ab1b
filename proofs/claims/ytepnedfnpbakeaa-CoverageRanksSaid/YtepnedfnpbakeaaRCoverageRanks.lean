import Derived.Test.YtepnedfnpbakeaaL130
import Derived.Test.YtepnedfnpbakeaaQ3
/- The law CoverageRanks, for every input. -/
set_option linter.all false
set_option maxRecDepth 100000
namespace Go.Ax
open Go.Proofs Go.Proofs.Ytepnedfnpbakeaa
open Go.ChangeShapes Go.WideShapes Go.ChangeAt Go.RowKit
theorem law16_CoverageRanks_con : ∀ us, ShpVs Try.prog 8 [3] us → ∃ p, law16_CoverageRanks_C us = some (p, .data (bl true)) ∧ ∀ q ∈ p, q := by
  intro us h
  obtain ⟨v0, w0, rfl, k0, h⟩ := ShpVs.cons h
  obtain rfl := ShpVs.nil h
  clear h
  obtain ⟨a0, h0, rfl⟩ := ShpV.cell (by kernel_rfl) k0
  obtain ⟨n0, q0, r0⟩ := Shp.int (d := 7) Try.underlying3 h0
  cases q0
  have e := law_CoverageRanks n0
  refine ⟨_, (show law16_CoverageRanks_C _ = some (_, law16_CoverageRanks_out ((law16_CoverageRanks n0).getD false)) from rfl).trans (by rw [e]; rfl), ?_⟩
  intro q hq
  rcases List.mem_cons.1 hq with rfl | hq
  · first | rfl | (rw [e]; rfl)
  exact absurd hq List.not_mem_nil
theorem law16_CoverageRanks_lifted (os : Os) (started : os.Started) (H : Type) (enc : TypeId × Value → H) :
    ReturnsInHanded {} Try.checked os 3 .any (Rows.coverageRanksSpec.pre6 enc Try.prog Try.f3 Rows.coverageRanksRow.domain false) (Rows.coverageRanksSpec.post enc Try.prog Try.f3 false true false false) := by
  refine returnsInHanded_of_change (C := Try.checked) q_own started (by kernel_rfl) Try.func3
    (ChangeSpec.witness6 (enc := enc) (C := Try.checked) false ⟨#[], #[.int .i64 0], []⟩ 8 (by kernel_rfl) (by kernel_rfl) (by kernel_rfl) (by kernel_rfl)) ?_
  intro W base args ds gs before hval hW _ _
  have hv : Rows.coverageRanksSpec.vars = [] := rfl
  exact law_calls law16_CoverageRanks_ok ⟨bodyOf Try.f3, by kernel_rfl⟩ Try.func3 (by kernel_rfl) q_a2 8 (by kernel_rfl) (by kernel_rfl) (by kernel_rfl) (tb := 4) (by kernel_rfl) Try.underlying4
    (fun ds gs h1 h2 => by
      have h1' : ds.length = 1 := h1.trans (by kernel_rfl)
      have h2' : gs.length = 0 := h2
      match ds, gs, h1', h2' with
      | [d0], [], _, _ => exact ⟨rfl, rfl, rfl⟩)
    (fun us h => law16_CoverageRanks_con us (by rw [show Try.f3.params.toList = [3] from by kernel_rfl] at h; exact h)) W base args ds gs before hval hW
end Go.Ax
