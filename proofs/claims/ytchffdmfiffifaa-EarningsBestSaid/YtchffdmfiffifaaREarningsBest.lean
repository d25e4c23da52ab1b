import Derived.Test.YtchffdmfiffifaaL23
import Derived.Test.YtchffdmfiffifaaQ3
/- The law EarningsBest, for every input. -/
set_option linter.all false
set_option maxRecDepth 100000
namespace Go.Ax
open Go.Proofs Go.Proofs.Ytchffdmfiffifaa
open Go.ChangeShapes Go.WideShapes Go.ChangeAt Go.RowKit
theorem law19_EarningsBest_con : ∀ us, ShpVs Try.prog 8 [40, 3] us → ∃ p, law19_EarningsBest_C us = some (p, .data (bl true)) ∧ ∀ q ∈ p, q := by
  intro us h
  obtain ⟨v0, w0, rfl, k0, h⟩ := ShpVs.cons h
  obtain ⟨v1, w1, rfl, k1, h⟩ := ShpVs.cons h
  obtain rfl := ShpVs.nil h
  clear h
  obtain ⟨a0, h0, rfl⟩ := ShpV.cell (by kernel_rfl) k0
  obtain ⟨m0, e0, q0, l0, s0, _⟩ := Shp.slice (d := 7) Try.underlying40 h0
  cases q0
  have t0 := lst_shape (enc := eI64) (dec := dI64) (R := fun x => I64 x) (k0 := 1) (k := Try.prog.cellsOf 3) dI64_eI64 (by kernel_rfl) (fun i hi => by
    have h0 := s0 i hi
    obtain ⟨x, hx, hr⟩ := Shp.int (d := 6) Try.underlying3 h0
    exact ⟨x, hx, I64.of hr⟩)
  obtain ⟨a1, h1, rfl⟩ := ShpV.cell (by kernel_rfl) k1
  obtain ⟨n1, q1, r1⟩ := Shp.int (d := 7) Try.underlying3 h1
  cases q1
  have e := law_EarningsBest (lst dI64 m0 e0) n1
  refine ⟨_, (show law19_EarningsBest_C _ = some (_, law19_EarningsBest_out ((law19_EarningsBest (lst dI64 m0 e0) n1).getD false)) from rfl).trans (by rw [e]; rfl), ?_⟩
  intro q hq
  simp only [List.mem_cons, List.not_mem_nil, or_false] at hq
  rcases hq with rfl | rfl
  · exact t0.1
  · first | rfl | (rw [e]; rfl)
theorem law19_EarningsBest_lifted (os : Os) (started : os.Started) (H : Type) (enc : TypeId × Value → H) :
    ReturnsInHanded {} Try.checked os 10 .any (Rows.earningsBestSpec.pre6 enc Try.prog Try.f10 Rows.earningsBestRow.domain false) (Rows.earningsBestSpec.post enc Try.prog Try.f10 false true false false) := by
  refine returnsInHanded_of_change (C := Try.checked) q_own started (by kernel_rfl) Try.func10
    (ChangeSpec.witness6 (enc := enc) (C := Try.checked) false ⟨#[], #[.slice none 0 0, .int .i64 0], []⟩ 8 (by kernel_rfl) (by kernel_rfl) (by kernel_rfl) (by kernel_rfl)) ?_
  intro W base args ds gs before hval hW _ _
  have hv : Rows.earningsBestSpec.vars = [] := rfl
  exact law_calls law19_EarningsBest_ok ⟨bodyOf Try.f10, by kernel_rfl⟩ Try.func10 (by kernel_rfl) q_a2 8 (by kernel_rfl) (by kernel_rfl) (by kernel_rfl) (tb := 4) (by kernel_rfl) Try.underlying4
    (fun ds gs h1 h2 => by
      have h1' : ds.length = 2 := h1.trans (by kernel_rfl)
      have h2' : gs.length = 0 := h2
      match ds, gs, h1', h2' with
      | [d0, d1], [], _, _ => exact ⟨rfl, rfl, rfl⟩)
    (fun us h => law19_EarningsBest_con us (by rw [show Try.f10.params.toList = [40, 3] from by kernel_rfl] at h; exact h)) W base args ds gs before hval hW
end Go.Ax
