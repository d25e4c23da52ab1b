import Derived.Test.YtkcekbabhmdnhaaL104
import Derived.Test.YtkcekbabhmdnhaaQ3
/- The law TotalsAddUp, for every input. -/
set_option linter.all false
set_option maxRecDepth 100000
namespace Go.Ax
open Go.Proofs Go.Proofs.Ytkcekbabhmdnhaa
open Go.ChangeShapes Go.WideShapes Go.ChangeAt Go.RowKit
def R_GSpan (x : GSpan) : Prop := (I64 x.From) ∧ (I64 x.To)
theorem shp_GSpan_37 {d : Nat} {ds : List D} (h : Shp Try.prog (d + 2) 37 ds) : ∃ x : GSpan, ds = eGSpan x ∧ R_GSpan x := by
  have h := Shp.struct Try.underlying37 h
  simp only [eachField] at h
  obtain ⟨a0, b0, rfl, h0, a1, b1, rfl, h1, rfl⟩ := h
  obtain ⟨n0, rfl, r0⟩ := Shp.int Try.underlying3 h0
  obtain ⟨n1, rfl, r1⟩ := Shp.int Try.underlying3 h1
  exact ⟨⟨n0, n1⟩, rfl, ⟨I64.of r0, I64.of r1⟩⟩
def R_GCounted (x : GCounted) : Prop := (R_GSpan x.Span) ∧ (I64 x.State) ∧ (I64 x.Rank)
theorem shp_GCounted_39 {d : Nat} {ds : List D} (h : Shp Try.prog (d + 3) 39 ds) : ∃ x : GCounted, ds = eGCounted x ∧ R_GCounted x := by
  have h := Shp.struct Try.underlying39 h
  simp only [eachField] at h
  obtain ⟨a0, b0, rfl, h0, a1, b1, rfl, h1, a2, b2, rfl, h2, rfl⟩ := h
  obtain ⟨n0, rfl, r0⟩ := shp_GSpan_37 h0
  obtain ⟨n1, rfl, r1⟩ := Shp.int Try.underlying3 h1
  obtain ⟨n2, rfl, r2⟩ := Shp.int Try.underlying3 h2
  exact ⟨⟨n0, n1, n2⟩, rfl, ⟨r0, I64.of r1, I64.of r2⟩⟩
theorem law18_TotalsAddUp_con : ∀ us, ShpVs Try.prog 8 [22, 3] us → ∃ p, law18_TotalsAddUp_C us = some (p, .data (bl true)) ∧ ∀ q ∈ p, q := by
  intro us h
  obtain ⟨v0, w0, rfl, k0, h⟩ := ShpVs.cons h
  obtain ⟨v1, w1, rfl, k1, h⟩ := ShpVs.cons h
  obtain rfl := ShpVs.nil h
  clear h
  obtain ⟨a0, h0, rfl⟩ := ShpV.cell (by kernel_rfl) k0
  obtain ⟨m0, e0, q0, l0, s0, _⟩ := Shp.slice (d := 7) Try.underlying22 h0
  cases q0
  have t0 := lst_shape (enc := eGCounted) (dec := dGCounted) (R := fun x => R_GCounted x) (k0 := 4) (k := Try.prog.cellsOf 39) dGCounted_eGCounted (by kernel_rfl) (fun i hi => by
    have h0 := s0 i hi
    obtain ⟨x, hx, hr⟩ := shp_GCounted_39 (d := 4) h0
    exact ⟨x, hx, hr⟩)
  obtain ⟨a1, h1, rfl⟩ := ShpV.cell (by kernel_rfl) k1
  obtain ⟨n1, q1, r1⟩ := Shp.int (d := 7) Try.underlying3 h1
  cases q1
  have e := law_TotalsAddUp (lst dGCounted m0 e0) n1
  refine ⟨_, (show law18_TotalsAddUp_C _ = some (_, law18_TotalsAddUp_out ((law18_TotalsAddUp (lst dGCounted m0 e0) n1).getD false)) from rfl).trans (by rw [e]; rfl), ?_⟩
  intro q hq
  simp only [List.mem_cons, List.not_mem_nil, or_false] at hq
  rcases hq with rfl | rfl
  · exact t0.1
  · first | rfl | (rw [e]; rfl)
theorem law18_TotalsAddUp_lifted (os : Os) (started : os.Started) (H : Type) (enc : TypeId × Value → H) :
    ReturnsInHanded {} Try.checked os 7 .any (Rows.totalsAddUpSpec.pre6 enc Try.prog Try.f7 Rows.totalsAddUpRow.domain false) (Rows.totalsAddUpSpec.post enc Try.prog Try.f7 false true false false) := by
  refine returnsInHanded_of_change (C := Try.checked) q_own started (by kernel_rfl) Try.func7
    (ChangeSpec.witness6 (enc := enc) (C := Try.checked) false ⟨#[], #[.slice none 0 0, .int .i64 0], []⟩ 8 (by kernel_rfl) (by kernel_rfl) (by kernel_rfl) (by kernel_rfl)) ?_
  intro W base args ds gs before hval hW _ _
  have hv : Rows.totalsAddUpSpec.vars = [] := rfl
  exact law_calls law18_TotalsAddUp_ok ⟨bodyOf Try.f7, by kernel_rfl⟩ Try.func7 (by kernel_rfl) q_a2 8 (by kernel_rfl) (by kernel_rfl) (by kernel_rfl) (tb := 4) (by kernel_rfl) Try.underlying4
    (fun ds gs h1 h2 => by
      have h1' : ds.length = 2 := h1.trans (by kernel_rfl)
      have h2' : gs.length = 0 := h2
      match ds, gs, h1', h2' with
      | [d0, d1], [], _, _ => exact ⟨rfl, rfl, rfl⟩)
    (fun us h => law18_TotalsAddUp_con us (by rw [show Try.f7.params.toList = [22, 3] from by kernel_rfl] at h; exact h)) W base args ds gs before hval hW
end Go.Ax
