import Derived.Test.YtklbaihmajbbdaaL57
import Derived.Test.YtklbaihmajbbdaaQ3
/- The law ConversionSharesAddUp, for every input. -/
set_option linter.all false
set_option maxRecDepth 100000
namespace Go.Ax
open Go.Proofs Go.Proofs.Ytklbaihmajbbdaa
open Go.ChangeShapes Go.WideShapes Go.ChangeAt Go.RowKit
def R_GPensionlaw22_Raw (x : GPensionlaw22_Raw) : Prop := (I64 x.A) ∧ (I64 x.B) ∧ (I64 x.C) ∧ (I64 x.D)
theorem shp_GPensionlaw22_Raw_64 {d : Nat} {ds : List D} (h : Shp Try.prog (d + 2) 64 ds) : ∃ x : GPensionlaw22_Raw, ds = eGPensionlaw22_Raw x ∧ R_GPensionlaw22_Raw x := by
  have h := Shp.struct Try.underlying64 h
  simp only [eachField] at h
  obtain ⟨a0, b0, rfl, h0, a1, b1, rfl, h1, a2, b2, rfl, h2, a3, b3, rfl, h3, rfl⟩ := h
  obtain ⟨n0, rfl, r0⟩ := Shp.int Try.underlying3 h0
  obtain ⟨n1, rfl, r1⟩ := Shp.int Try.underlying3 h1
  obtain ⟨n2, rfl, r2⟩ := Shp.int Try.underlying3 h2
  obtain ⟨n3, rfl, r3⟩ := Shp.int Try.underlying3 h3
  exact ⟨⟨n0, n1, n2, n3⟩, rfl, ⟨I64.of r0, I64.of r1, I64.of r2, I64.of r3⟩⟩
theorem law22_ConversionSharesAddUp_con : ∀ us, ShpVs Try.prog 8 [23] us → ∃ p, law22_ConversionSharesAddUp_C us = some (p, .data (bl true)) ∧ ∀ q ∈ p, q := by
  intro us h
  obtain ⟨v0, w0, rfl, k0, h⟩ := ShpVs.cons h
  obtain rfl := ShpVs.nil h
  clear h
  obtain ⟨a0, h0, rfl⟩ := ShpV.cell (by kernel_rfl) k0
  obtain ⟨m0, e0, q0, l0, s0, _⟩ := Shp.slice (d := 7) Try.underlying23 h0
  cases q0
  have t0 := lst_shape (enc := eGPensionlaw22_Raw) (dec := dGPensionlaw22_Raw) (R := fun x => R_GPensionlaw22_Raw x) (k0 := 4) (k := Try.prog.cellsOf 64) dGPensionlaw22_Raw_eGPensionlaw22_Raw (by kernel_rfl) (fun i hi => by
    have h0 := s0 i hi
    obtain ⟨x, hx, hr⟩ := shp_GPensionlaw22_Raw_64 (d := 5) h0
    exact ⟨x, hx, hr⟩)
  have e := law_ConversionSharesAddUp (lst dGPensionlaw22_Raw m0 e0) (by rw [t0.2.1]; exact l0)
  refine ⟨_, (show law22_ConversionSharesAddUp_C _ = some (_, law22_ConversionSharesAddUp_out ((law22_ConversionSharesAddUp (lst dGPensionlaw22_Raw m0 e0)).getD false)) from rfl).trans (by rw [e]; rfl), ?_⟩
  intro q hq
  simp only [List.mem_cons, List.not_mem_nil, or_false] at hq
  rcases hq with rfl | rfl
  · exact t0.1
  · first | rfl | (rw [e]; rfl)
theorem law22_ConversionSharesAddUp_lifted (os : Os) (started : os.Started) (H : Type) (enc : TypeId × Value → H) :
    ReturnsInHanded {} Try.checked os 12 .any (Rows.conversionSharesAddUpSpec.pre6 enc Try.prog Try.f12 Rows.conversionSharesAddUpRow.domain false) (Rows.conversionSharesAddUpSpec.post enc Try.prog Try.f12 false true false false) := by
  refine returnsInHanded_of_change (C := Try.checked) q_own started (by kernel_rfl) Try.func12
    (ChangeSpec.witness6 (enc := enc) (C := Try.checked) false ⟨#[], #[.slice none 0 0], []⟩ 8 (by kernel_rfl) (by kernel_rfl) (by kernel_rfl) (by kernel_rfl)) ?_
  intro W base args ds gs before hval hW _ _
  have hv : Rows.conversionSharesAddUpSpec.vars = [] := rfl
  exact law_calls law22_ConversionSharesAddUp_ok ⟨bodyOf Try.f12, by kernel_rfl⟩ Try.func12 (by kernel_rfl) q_a2 8 (by kernel_rfl) (by kernel_rfl) (by kernel_rfl) (tb := 4) (by kernel_rfl) Try.underlying4
    (fun ds gs h1 h2 => by
      have h1' : ds.length = 1 := h1.trans (by kernel_rfl)
      have h2' : gs.length = 0 := h2
      match ds, gs, h1', h2' with
      | [d0], [], _, _ => exact ⟨rfl, rfl, rfl⟩)
    (fun us h => law22_ConversionSharesAddUp_con us (by rw [show Try.f12.params.toList = [23] from by kernel_rfl] at h; exact h)) W base args ds gs before hval hW
end Go.Ax
