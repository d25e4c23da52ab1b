import Derived.Test.YtklbaihmajbbdaaL41
import Derived.Test.YtklbaihmajbbdaaQ3
import Derived.Test.YtklbaihmajbbdaaA7
/- The law ConversionConvertAgrees, for every input. -/
set_option linter.all false
set_option maxRecDepth 100000
namespace Go.Ax
open Go.Proofs Go.Proofs.Ytklbaihmajbbdaa
open Go.ChangeShapes Go.WideShapes Go.ChangeAt Go.RowKit
def R_GNet (x : GNet) : Prop := (I64 x.State) ∧ (I64 x.Benefit) ∧ (I64 x.Currency) ∧ (I64 x.Independent) ∧ (I64 x.ProRata) ∧ (I64 x.Deducted) ∧ (I64 x.Amount)
theorem shp_GNet_28 {d : Nat} {ds : List D} (h : Shp Try.prog (d + 2) 28 ds) : ∃ x : GNet, ds = eGNet x ∧ R_GNet x := by
  have h := Shp.struct Try.underlying28 h
  simp only [eachField] at h
  obtain ⟨a0, b0, rfl, h0, a1, b1, rfl, h1, a2, b2, rfl, h2, a3, b3, rfl, h3, a4, b4, rfl, h4, a5, b5, rfl, h5, a6, b6, rfl, h6, rfl⟩ := h
  obtain ⟨n0, rfl, r0⟩ := Shp.int Try.underlying3 h0
  obtain ⟨n1, rfl, r1⟩ := Shp.int Try.underlying3 h1
  obtain ⟨n2, rfl, r2⟩ := Shp.int Try.underlying3 h2
  obtain ⟨n3, rfl, r3⟩ := Shp.int Try.underlying3 h3
  obtain ⟨n4, rfl, r4⟩ := Shp.int Try.underlying3 h4
  obtain ⟨n5, rfl, r5⟩ := Shp.int Try.underlying3 h5
  obtain ⟨n6, rfl, r6⟩ := Shp.int Try.underlying3 h6
  exact ⟨⟨n0, n1, n2, n3, n4, n5, n6⟩, rfl, ⟨I64.of r0, I64.of r1, I64.of r2, I64.of r3, I64.of r4, I64.of r5, I64.of r6⟩⟩
def R_GPensionlaw22_Raw (x : GPensionlaw22_Raw) : Prop := (I64 x.A) ∧ (I64 x.B) ∧ (I64 x.C) ∧ (I64 x.D)
theorem shp_GPensionlaw22_Raw_64 {d : Nat} {ds : List D} (h : Shp Try.prog (d + 2) 64 ds) : ∃ x : GPensionlaw22_Raw, ds = eGPensionlaw22_Raw x ∧ R_GPensionlaw22_Raw x := by
  have h := Shp.struct Try.underlying64 h
  simp only [eachField] at h
  obtain ⟨a0, b0, rfl, h0, a1, b1, rfl, h1, a2, b2, rfl, h2, a3, b3, rfl, h3, rfl⟩ := h
  obtain ⟨n0, rfl, r0⟩ := Shp.int Try.underlying3 h0
  obtain ⟨n1, rfl, r1⟩ := Shp.int Try.underlying3 h1
  obtain ⟨n2, rfl, r2⟩ := Shp.int Try.underlying3 h2
  obtain ⟨n3, rfl, r3⟩ := Shp.int Try.underlying3 h3
  exact ⟨⟨n0, n1, n2, n3⟩, rfl, ⟨I64.of r0, I64.of r1, I64.of r2, I64.of r3⟩⟩
theorem law22_ConversionConvertAgrees_con : ∀ us, ShpVs Try.prog 8 [22, 23] us → Sizes Try.prog [22, 23] us → ∃ p, law22_ConversionConvertAgrees_C us = some (p, .data (bl true)) ∧ ∀ q ∈ p, q := by
  intro us h hz
  obtain ⟨v0, w0, rfl, k0, h⟩ := ShpVs.cons h
  obtain ⟨v1, w1, rfl, k1, h⟩ := ShpVs.cons h
  obtain rfl := ShpVs.nil h
  clear h
  obtain ⟨a0, h0, rfl⟩ := ShpV.cell (by kernel_rfl) k0
  obtain ⟨m0, e0, q0, l0, s0, _⟩ := Shp.slice (d := 7) Try.underlying22 h0
  cases q0
  have z0 := hz 0 22 28 _ _ _ rfl Try.underlying22 rfl
  have t0 := lst_shape (enc := eGNet) (dec := dGNet) (R := fun x => R_GNet x) (k0 := 7) (k := Try.prog.cellsOf 28) dGNet_eGNet (by kernel_rfl) (fun i hi => by
    have h0 := s0 i hi
    obtain ⟨x, hx, hr⟩ := shp_GNet_28 (d := 5) h0
    exact ⟨x, hx, hr⟩)
  obtain ⟨a1, h1, rfl⟩ := ShpV.cell (by kernel_rfl) k1
  obtain ⟨m1, e1, q1, l1, s1, _⟩ := Shp.slice (d := 7) Try.underlying23 h1
  cases q1
  have t1 := lst_shape (enc := eGPensionlaw22_Raw) (dec := dGPensionlaw22_Raw) (R := fun x => R_GPensionlaw22_Raw x) (k0 := 4) (k := Try.prog.cellsOf 64) dGPensionlaw22_Raw_eGPensionlaw22_Raw (by kernel_rfl) (fun i hi => by
    have h0 := s1 i hi
    obtain ⟨x, hx, hr⟩ := shp_GPensionlaw22_Raw_64 (d := 5) h0
    exact ⟨x, hx, hr⟩)
  have e := law_ConversionConvertAgrees (lst dGNet m0 e0) (lst dGPensionlaw22_Raw m1 e1) (by rw [t0.2.1]; exact size_le (b := 56) (by rw [show Try.prog.bytesOf 28 = 56 from by kernel_rfl] at z0; exact z0) (by decide)) (by rw [t1.2.1]; exact l1)
  refine ⟨_, (show law22_ConversionConvertAgrees_C _ = some (_, law22_ConversionConvertAgrees_out ((law22_ConversionConvertAgrees (lst dGNet m0 e0) (lst dGPensionlaw22_Raw m1 e1)).getD false)) from rfl).trans (by rw [e]; rfl), ?_⟩
  intro q hq
  simp only [List.mem_cons, List.not_mem_nil, or_false] at hq
  rcases hq with rfl | rfl | rfl
  · exact t0.1
  · exact t1.1
  · first | rfl | (rw [e]; rfl)
theorem law22_ConversionConvertAgrees_lifted (os : Os) (started : os.Started) (H : Type) (enc : TypeId × Value → H) :
    ReturnsInHanded {} Try.checked os 3 .any (Rows.conversionConvertAgreesSpec.pre6 enc Try.prog Try.f3 Rows.conversionConvertAgreesRow.domain false) (Rows.conversionConvertAgreesSpec.post enc Try.prog Try.f3 false true false false) := by
  refine returnsInHanded_of_change_sized (C := Try.checked) q_own started (by kernel_rfl) Try.func3
    (ChangeSpec.witness6 (enc := enc) (C := Try.checked) false ⟨#[], #[.slice none 0 0, .slice none 0 0], []⟩ 8 (by kernel_rfl) (by kernel_rfl) (by kernel_rfl) (by kernel_rfl)) ?_
  intro W base args ds gs before hval hW _ hsz _
  have hv : Rows.conversionConvertAgreesSpec.vars = [] := rfl
  exact law_calls_sized law22_ConversionConvertAgrees_ok ⟨bodyOf Try.f3, by kernel_rfl⟩ Try.func3 (by kernel_rfl) q_a2 8 (by kernel_rfl) (by kernel_rfl) (by kernel_rfl) (tb := 4) (by kernel_rfl) Try.underlying4
    (fun ds gs h1 h2 => by
      have h1' : ds.length = 2 := h1.trans (by kernel_rfl)
      have h2' : gs.length = 0 := h2
      match ds, gs, h1', h2' with
      | [d0, d1], [], _, _ => exact ⟨rfl, rfl, rfl⟩)
    (fun us h hzz => law22_ConversionConvertAgrees_con us (by rw [show Try.f3.params.toList = [22, 23] from by kernel_rfl] at h; exact h) (by rw [show Try.f3.params.toList = [22, 23] from by kernel_rfl] at hzz; exact hzz)) W base args ds gs before hval hW hsz
end Go.Ax
