import Derived.Test.YtepnedfnpbakeaaL131
import Derived.Test.YtepnedfnpbakeaaQ3
/- The law CoverageSelects, for every input. -/
set_option linter.all false
set_option maxRecDepth 100000
namespace Go.Ax
open Go.Proofs Go.Proofs.Ytepnedfnpbakeaa
open Go.ChangeShapes Go.WideShapes Go.ChangeAt Go.RowKit
def R_GSpan (x : GSpan) : Prop := (I64 x.From) ∧ (I64 x.To)
theorem shp_GSpan_28 {d : Nat} {ds : List D} (h : Shp Try.prog (d + 2) 28 ds) : ∃ x : GSpan, ds = eGSpan x ∧ R_GSpan x := by
  have h := Shp.struct Try.underlying28 h
  simp only [eachField] at h
  obtain ⟨a0, b0, rfl, h0, a1, b1, rfl, h1, rfl⟩ := h
  obtain ⟨n0, rfl, r0⟩ := Shp.int Try.underlying3 h0
  obtain ⟨n1, rfl, r1⟩ := Shp.int Try.underlying3 h1
  exact ⟨⟨n0, n1⟩, rfl, ⟨I64.of r0, I64.of r1⟩⟩
def R_GPeriod (x : GPeriod) : Prop := (I64 x.State) ∧ (I64 x.Rank) ∧ (R_GSpan x.Span)
theorem shp_GPeriod_30 {d : Nat} {ds : List D} (h : Shp Try.prog (d + 3) 30 ds) : ∃ x : GPeriod, ds = eGPeriod x ∧ R_GPeriod x := by
  have h := Shp.struct Try.underlying30 h
  simp only [eachField] at h
  obtain ⟨a0, b0, rfl, h0, a1, b1, rfl, h1, a2, b2, rfl, h2, rfl⟩ := h
  obtain ⟨n0, rfl, r0⟩ := Shp.int Try.underlying3 h0
  obtain ⟨n1, rfl, r1⟩ := Shp.int Try.underlying3 h1
  obtain ⟨n2, rfl, r2⟩ := shp_GSpan_28 h2
  exact ⟨⟨n0, n1, n2⟩, rfl, ⟨I64.of r0, I64.of r1, r2⟩⟩
theorem law16_CoverageSelects_con : ∀ us, ShpVs Try.prog 8 [26, 3, 3, 3] us → ∃ p, law16_CoverageSelects_C us = some (p, .data (bl true)) ∧ ∀ q ∈ p, q := by
  intro us h
  obtain ⟨v0, w0, rfl, k0, h⟩ := ShpVs.cons h
  obtain ⟨v1, w1, rfl, k1, h⟩ := ShpVs.cons h
  obtain ⟨v2, w2, rfl, k2, h⟩ := ShpVs.cons h
  obtain ⟨v3, w3, rfl, k3, h⟩ := ShpVs.cons h
  obtain rfl := ShpVs.nil h
  clear h
  obtain ⟨a0, h0, rfl⟩ := ShpV.cell (by kernel_rfl) k0
  obtain ⟨m0, e0, q0, l0, s0, _⟩ := Shp.slice (d := 7) Try.underlying26 h0
  cases q0
  have t0 := lst_shape (enc := eGPeriod) (dec := dGPeriod) (R := fun x => R_GPeriod x) (k0 := 4) (k := Try.prog.cellsOf 30) dGPeriod_eGPeriod (by kernel_rfl) (fun i hi => by
    have h0 := s0 i hi
    obtain ⟨x, hx, hr⟩ := shp_GPeriod_30 (d := 4) h0
    exact ⟨x, hx, hr⟩)
  obtain ⟨a1, h1, rfl⟩ := ShpV.cell (by kernel_rfl) k1
  obtain ⟨n1, q1, r1⟩ := Shp.int (d := 7) Try.underlying3 h1
  cases q1
  obtain ⟨a2, h2, rfl⟩ := ShpV.cell (by kernel_rfl) k2
  obtain ⟨n2, q2, r2⟩ := Shp.int (d := 7) Try.underlying3 h2
  cases q2
  obtain ⟨a3, h3, rfl⟩ := ShpV.cell (by kernel_rfl) k3
  obtain ⟨n3, q3, r3⟩ := Shp.int (d := 7) Try.underlying3 h3
  cases q3
  have e := law_CoverageSelects (lst dGPeriod m0 e0) n1 n2 n3
  refine ⟨_, (show law16_CoverageSelects_C _ = some (_, law16_CoverageSelects_out ((law16_CoverageSelects (lst dGPeriod m0 e0) n1 n2 n3).getD false)) from rfl).trans (by rw [e]; rfl), ?_⟩
  intro q hq
  rcases List.mem_cons.1 hq with rfl | hq
  · exact t0.1
  rcases List.mem_cons.1 hq with rfl | hq
  · first | rfl | (rw [e]; rfl)
  exact absurd hq List.not_mem_nil
theorem law16_CoverageSelects_lifted (os : Os) (started : os.Started) (H : Type) (enc : TypeId × Value → H) :
    ReturnsInHanded {} Try.checked os 4 .any (Rows.coverageSelectsSpec.pre6 enc Try.prog Try.f4 Rows.coverageSelectsRow.domain false) (Rows.coverageSelectsSpec.post enc Try.prog Try.f4 false true false false) := by
  refine returnsInHanded_of_change (C := Try.checked) q_own started (by kernel_rfl) Try.func4
    (ChangeSpec.witness6 (enc := enc) (C := Try.checked) false ⟨#[], #[.slice none 0 0, .int .i64 0, .int .i64 0, .int .i64 0], []⟩ 8 (by kernel_rfl) (by kernel_rfl) (by kernel_rfl) (by kernel_rfl)) ?_
  intro W base args ds gs before hval hW _ _
  have hv : Rows.coverageSelectsSpec.vars = [] := rfl
  exact law_calls law16_CoverageSelects_ok ⟨bodyOf Try.f4, by kernel_rfl⟩ Try.func4 (by kernel_rfl) q_a2 8 (by kernel_rfl) (by kernel_rfl) (by kernel_rfl) (tb := 4) (by kernel_rfl) Try.underlying4
    (fun ds gs h1 h2 => by
      have h1' : ds.length = 4 := h1.trans (by kernel_rfl)
      have h2' : gs.length = 0 := h2
      match ds, gs, h1', h2' with
      | [d0, d1, d2, d3], [], _, _ => exact ⟨rfl, rfl, rfl⟩)
    (fun us h => law16_CoverageSelects_con us (by rw [show Try.f4.params.toList = [26, 3, 3, 3] from by kernel_rfl] at h; exact h)) W base args ds gs before hval hW
end Go.Ax
