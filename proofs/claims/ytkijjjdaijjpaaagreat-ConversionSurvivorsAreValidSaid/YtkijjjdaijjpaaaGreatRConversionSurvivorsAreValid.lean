import Derived.Test.YtkijjjdaijjpaaaGreatLV4
import Derived.Test.YtkijjjdaijjpaaaGreatQ3
/- The law ConversionSurvivorsAreValid, for every input. -/
set_option linter.all false
set_option maxRecDepth 100000
namespace Go.Ax
open Go.Proofs Go.Proofs.YtkijjjdaijjpaaaGreat
open Go.ChangeShapes Go.WideShapes Go.ChangeAt Go.RowKit
def R_GPensionhand_Fact (x : GPensionhand_Fact) : Prop := (I64 x.Issuer) ∧ (I64 x.Number) ∧ (I64 x.Version) ∧ (I64 x.Person) ∧ (I64 x.Kind) ∧ (I64 x.State) ∧ (I64 x.Seat) ∧ (I64 x.From) ∧ (I64 x.Length) ∧ (I64 x.Share) ∧ (I64 x.Amount) ∧ (I64 x.Ref)
theorem shp_GPensionhand_Fact_47 {d : Nat} {ds : List D} (h : Shp Tryz.prog (d + 2) 47 ds) : ∃ x : GPensionhand_Fact, ds = eGPensionhand_Fact x ∧ R_GPensionhand_Fact x := by
  have h := Shp.struct Tryz.underlying47 h
  simp only [eachField] at h
  obtain ⟨a0, b0, rfl, h0, a1, b1, rfl, h1, a2, b2, rfl, h2, a3, b3, rfl, h3, a4, b4, rfl, h4, a5, b5, rfl, h5, a6, b6, rfl, h6, a7, b7, rfl, h7, a8, b8, rfl, h8, a9, b9, rfl, h9, a10, b10, rfl, h10, a11, b11, rfl, h11, a12, b12, rfl, h12, rfl⟩ := h
  obtain ⟨n0, rfl, r0⟩ := Shp.int Tryz.underlying3 h0
  obtain ⟨n1, rfl, r1⟩ := Shp.int Tryz.underlying3 h1
  obtain ⟨n2, rfl, r2⟩ := Shp.int Tryz.underlying3 h2
  obtain ⟨n3, rfl⟩ := Shp.bool Tryz.underlying4 h3
  obtain ⟨n4, rfl, r4⟩ := Shp.int Tryz.underlying3 h4
  obtain ⟨n5, rfl, r5⟩ := Shp.int Tryz.underlying3 h5
  obtain ⟨n6, rfl, r6⟩ := Shp.int Tryz.underlying3 h6
  obtain ⟨n7, rfl, r7⟩ := Shp.int Tryz.underlying3 h7
  obtain ⟨n8, rfl, r8⟩ := Shp.int Tryz.underlying3 h8
  obtain ⟨n9, rfl, r9⟩ := Shp.int Tryz.underlying3 h9
  obtain ⟨n10, rfl, r10⟩ := Shp.int Tryz.underlying3 h10
  obtain ⟨n11, rfl, r11⟩ := Shp.int Tryz.underlying3 h11
  obtain ⟨n12, rfl, r12⟩ := Shp.int Tryz.underlying3 h12
  exact ⟨⟨n0, n1, n2, n3, n4, n5, n6, n7, n8, n9, n10, n11, n12⟩, rfl, ⟨I64.of r0, I64.of r1, I64.of r2, I64.of r4, I64.of r5, I64.of r6, I64.of r7, I64.of r8, I64.of r9, I64.of r10, I64.of r11, I64.of r12⟩⟩
theorem law22_ConversionSurvivorsAreValid_con : ∀ us, ShpVs Tryz.prog 8 [22, 23, 3, 3] us → ∃ p, law22_ConversionSurvivorsAreValid_C us = some (p, .data (bl true)) ∧ ∀ q ∈ p, q := by
  intro us h
  obtain ⟨v0, w0, rfl, k0, h⟩ := ShpVs.cons h
  obtain ⟨v1, w1, rfl, k1, h⟩ := ShpVs.cons h
  obtain ⟨v2, w2, rfl, k2, h⟩ := ShpVs.cons h
  obtain ⟨v3, w3, rfl, k3, h⟩ := ShpVs.cons h
  obtain rfl := ShpVs.nil h
  clear h
  obtain ⟨a0, h0, rfl⟩ := ShpV.cell (by kernel_rfl) k0
  obtain ⟨m0, e0, q0, l0, s0, _⟩ := Shp.slice (d := 7) Tryz.underlying22 h0
  cases q0
  have t0 := lst_shape (enc := eI64) (dec := dI64) (R := fun x => I64 x) (k0 := 1) (k := Tryz.prog.cellsOf 3) dI64_eI64 (by kernel_rfl) (fun i hi => by
    have h0 := s0 i hi
    obtain ⟨x, hx, hr⟩ := Shp.int (d := 6) Tryz.underlying3 h0
    exact ⟨x, hx, I64.of hr⟩)
  obtain ⟨a1, h1, rfl⟩ := ShpV.cell (by kernel_rfl) k1
  obtain ⟨m1, e1, q1, l1, s1, _⟩ := Shp.slice (d := 7) Tryz.underlying23 h1
  cases q1
  have t1 := lst_shape (enc := eGPensionhand_Fact) (dec := dGPensionhand_Fact) (R := fun x => R_GPensionhand_Fact x) (k0 := 13) (k := Tryz.prog.cellsOf 47) dGPensionhand_Fact_eGPensionhand_Fact (by kernel_rfl) (fun i hi => by
    have h0 := s1 i hi
    obtain ⟨x, hx, hr⟩ := shp_GPensionhand_Fact_47 (d := 5) h0
    exact ⟨x, hx, hr⟩)
  obtain ⟨a2, h2, rfl⟩ := ShpV.cell (by kernel_rfl) k2
  obtain ⟨n2, q2, r2⟩ := Shp.int (d := 7) Tryz.underlying3 h2
  cases q2
  obtain ⟨a3, h3, rfl⟩ := ShpV.cell (by kernel_rfl) k3
  obtain ⟨n3, q3, r3⟩ := Shp.int (d := 7) Tryz.underlying3 h3
  cases q3
  have e := law_ConversionSurvivorsAreValid (lst dI64 m0 e0) (lst dGPensionhand_Fact m1 e1) n2 n3 (by rw [t0.2.1]; exact l0)
  refine ⟨_, (show law22_ConversionSurvivorsAreValid_C _ = some (_, law22_ConversionSurvivorsAreValid_out ((law22_ConversionSurvivorsAreValid (lst dI64 m0 e0) (lst dGPensionhand_Fact m1 e1) n2 n3).getD false)) from rfl).trans (by rw [e]; rfl), ?_⟩
  intro q hq
  rcases List.mem_cons.1 hq with rfl | hq
  · exact t0.1
  rcases List.mem_cons.1 hq with rfl | hq
  · exact t1.1
  rcases List.mem_cons.1 hq with rfl | hq
  · first | rfl | (rw [e]; rfl)
  exact absurd hq List.not_mem_nil
theorem law22_ConversionSurvivorsAreValid_lifted (os : Os) (started : os.Started) (H : Type) (enc : TypeId × Value → H) :
    ReturnsInHanded {} Tryz.checked os 5 .any (Rows.conversionSurvivorsAreValidSpec.pre6 enc Tryz.prog Tryz.f5 Rows.conversionSurvivorsAreValidRow.domain false) (Rows.conversionSurvivorsAreValidSpec.post enc Tryz.prog Tryz.f5 false true false false) := by
  refine returnsInHanded_of_change (C := Tryz.checked) q_own started (by kernel_rfl) Tryz.func5
    (ChangeSpec.witness6 (enc := enc) (C := Tryz.checked) false ⟨#[], #[.slice none 0 0, .slice none 0 0, .int .i64 0, .int .i64 0], []⟩ 8 (by kernel_rfl) (by kernel_rfl) (by kernel_rfl) (by kernel_rfl)) ?_
  intro W base args ds gs before hval hW _ _
  have hv : Rows.conversionSurvivorsAreValidSpec.vars = [] := rfl
  exact law_calls law22_ConversionSurvivorsAreValid_ok ⟨bodyOf Tryz.f5, by kernel_rfl⟩ Tryz.func5 (by kernel_rfl) q_a2 8 (by kernel_rfl) (by kernel_rfl) (by kernel_rfl) (tb := 4) (by kernel_rfl) Tryz.underlying4
    (fun ds gs h1 h2 => by
      have h1' : ds.length = 4 := h1.trans (by kernel_rfl)
      have h2' : gs.length = 0 := h2
      match ds, gs, h1', h2' with
      | [d0, d1, d2, d3], [], _, _ => exact ⟨rfl, rfl, rfl⟩)
    (fun us h => law22_ConversionSurvivorsAreValid_con us (by rw [show Tryz.f5.params.toList = [22, 23, 3, 3] from by kernel_rfl] at h; exact h)) W base args ds gs before hval hW
end Go.Ax
