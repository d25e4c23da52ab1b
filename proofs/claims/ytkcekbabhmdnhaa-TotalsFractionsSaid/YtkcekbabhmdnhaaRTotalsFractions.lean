import Derived.Test.YtkcekbabhmdnhaaL99
import Derived.Test.YtkcekbabhmdnhaaQ3
/- The law TotalsFractions, for every input. -/
set_option linter.all false
set_option maxRecDepth 100000
namespace Go.Ax
open Go.Proofs Go.Proofs.Ytkcekbabhmdnhaa
open Go.ChangeShapes Go.WideShapes Go.ChangeAt Go.RowKit
def R_GArr6_I64 (x : GArr6_I64) : Prop := (I64 x.a0) ∧ (I64 x.a1) ∧ (I64 x.a2) ∧ (I64 x.a3) ∧ (I64 x.a4) ∧ (I64 x.a5)
theorem shp_GArr6_I64_26 {d : Nat} {ds : List D} (h : Shp Try.prog (d + 2) 26 ds) : ∃ x : GArr6_I64, ds = eGArr6_I64 x ∧ R_GArr6_I64 x := by
  have h := Shp.array Try.underlying26 h
  simp only [eachPart] at h
  obtain ⟨a0, b0, rfl, h0, a1, b1, rfl, h1, a2, b2, rfl, h2, a3, b3, rfl, h3, a4, b4, rfl, h4, a5, b5, rfl, h5, rfl⟩ := h
  obtain ⟨n0, rfl, r0⟩ := Shp.int Try.underlying3 h0
  obtain ⟨n1, rfl, r1⟩ := Shp.int Try.underlying3 h1
  obtain ⟨n2, rfl, r2⟩ := Shp.int Try.underlying3 h2
  obtain ⟨n3, rfl, r3⟩ := Shp.int Try.underlying3 h3
  obtain ⟨n4, rfl, r4⟩ := Shp.int Try.underlying3 h4
  obtain ⟨n5, rfl, r5⟩ := Shp.int Try.underlying3 h5
  exact ⟨⟨n0, n1, n2, n3, n4, n5⟩, rfl, ⟨I64.of r0, I64.of r1, I64.of r2, I64.of r3, I64.of r4, I64.of r5⟩⟩
def R_GArr6_Bool (x : GArr6_Bool) : Prop := True
theorem shp_GArr6_Bool_27 {d : Nat} {ds : List D} (h : Shp Try.prog (d + 2) 27 ds) : ∃ x : GArr6_Bool, ds = eGArr6_Bool x ∧ R_GArr6_Bool x := by
  have h := Shp.array Try.underlying27 h
  simp only [eachPart] at h
  obtain ⟨a0, b0, rfl, h0, a1, b1, rfl, h1, a2, b2, rfl, h2, a3, b3, rfl, h3, a4, b4, rfl, h4, a5, b5, rfl, h5, rfl⟩ := h
  obtain ⟨n0, rfl⟩ := Shp.bool Try.underlying4 h0
  obtain ⟨n1, rfl⟩ := Shp.bool Try.underlying4 h1
  obtain ⟨n2, rfl⟩ := Shp.bool Try.underlying4 h2
  obtain ⟨n3, rfl⟩ := Shp.bool Try.underlying4 h3
  obtain ⟨n4, rfl⟩ := Shp.bool Try.underlying4 h4
  obtain ⟨n5, rfl⟩ := Shp.bool Try.underlying4 h5
  exact ⟨⟨n0, n1, n2, n3, n4, n5⟩, rfl, trivial⟩
def R_GTotal (x : GTotal) : Prop := (R_GArr6_I64 x.Own) ∧ (R_GArr6_Bool x.Few) ∧ (I64 x.Sum) ∧ (I64 x.Base) ∧ (I64 x.Last)
theorem shp_GTotal_29 {d : Nat} {ds : List D} (h : Shp Try.prog (d + 3) 29 ds) : ∃ x : GTotal, ds = eGTotal x ∧ R_GTotal x := by
  have h := Shp.struct Try.underlying29 h
  simp only [eachField] at h
  obtain ⟨a0, b0, rfl, h0, a1, b1, rfl, h1, a2, b2, rfl, h2, a3, b3, rfl, h3, a4, b4, rfl, h4, rfl⟩ := h
  obtain ⟨n0, rfl, r0⟩ := shp_GArr6_I64_26 h0
  obtain ⟨n1, rfl, r1⟩ := shp_GArr6_Bool_27 h1
  obtain ⟨n2, rfl, r2⟩ := Shp.int Try.underlying3 h2
  obtain ⟨n3, rfl, r3⟩ := Shp.int Try.underlying3 h3
  obtain ⟨n4, rfl, r4⟩ := Shp.int Try.underlying3 h4
  exact ⟨⟨n0, n1, n2, n3, n4⟩, rfl, ⟨r0, r1, I64.of r2, I64.of r3, I64.of r4⟩⟩
def R_GSpan (x : GSpan) : Prop := (I64 x.From) ∧ (I64 x.To)
theorem shp_GSpan_37 {d : Nat} {ds : List D} (h : Shp Try.prog (d + 2) 37 ds) : ∃ x : GSpan, ds = eGSpan x ∧ R_GSpan x := by
  have h := Shp.struct Try.underlying37 h
  simp only [eachField] at h
  obtain ⟨a0, b0, rfl, h0, a1, b1, rfl, h1, rfl⟩ := h
  obtain ⟨n0, rfl, r0⟩ := Shp.int Try.underlying3 h0
  obtain ⟨n1, rfl, r1⟩ := Shp.int Try.underlying3 h1
  exact ⟨⟨n0, n1⟩, rfl, ⟨I64.of r0, I64.of r1⟩⟩
def R_GCounted (x : GCounted) : Prop := (R_GSpan x.Span) ∧ (I64 x.State) ∧ (I64 x.Rank)
theorem shp_GCounted_39 {d : Nat} {ds : List D} (h : Shp Try.prog (d + 3) 39 ds) : ∃ x : GCounted, ds = eGCounted x ∧ R_GCounted x := by
  have h := Shp.struct Try.underlying39 h
  simp only [eachField] at h
  obtain ⟨a0, b0, rfl, h0, a1, b1, rfl, h1, a2, b2, rfl, h2, rfl⟩ := h
  obtain ⟨n0, rfl, r0⟩ := shp_GSpan_37 h0
  obtain ⟨n1, rfl, r1⟩ := Shp.int Try.underlying3 h1
  obtain ⟨n2, rfl, r2⟩ := Shp.int Try.underlying3 h2
  exact ⟨⟨n0, n1, n2⟩, rfl, ⟨r0, I64.of r1, I64.of r2⟩⟩
theorem law18_TotalsFractions_con : ∀ us, ShpVs Try.prog 8 [29, 22, 3, 3] us → ∃ p, law18_TotalsFractions_C us = some (p, .data (bl true)) ∧ ∀ q ∈ p, q := by
  intro us h
  obtain ⟨v0, w0, rfl, k0, h⟩ := ShpVs.cons h
  obtain ⟨v1, w1, rfl, k1, h⟩ := ShpVs.cons h
  obtain ⟨v2, w2, rfl, k2, h⟩ := ShpVs.cons h
  obtain ⟨v3, w3, rfl, k3, h⟩ := ShpVs.cons h
  obtain rfl := ShpVs.nil h
  clear h
  obtain ⟨a0, h0, rfl⟩ := ShpV.agg (by kernel_rfl) k0
  obtain ⟨n0, rfl, r0⟩ := shp_GTotal_29 (d := 5) h0
  obtain ⟨a1, h1, rfl⟩ := ShpV.cell (by kernel_rfl) k1
  obtain ⟨m1, e1, q1, l1, s1, _⟩ := Shp.slice (d := 7) Try.underlying22 h1
  cases q1
  have t1 := lst_shape (enc := eGCounted) (dec := dGCounted) (R := fun x => R_GCounted x) (k0 := 4) (k := Try.prog.cellsOf 39) dGCounted_eGCounted (by kernel_rfl) (fun i hi => by
    have h0 := s1 i hi
    obtain ⟨x, hx, hr⟩ := shp_GCounted_39 (d := 4) h0
    exact ⟨x, hx, hr⟩)
  obtain ⟨a2, h2, rfl⟩ := ShpV.cell (by kernel_rfl) k2
  obtain ⟨n2, q2, r2⟩ := Shp.int (d := 7) Try.underlying3 h2
  cases q2
  obtain ⟨a3, h3, rfl⟩ := ShpV.cell (by kernel_rfl) k3
  obtain ⟨n3, q3, r3⟩ := Shp.int (d := 7) Try.underlying3 h3
  cases q3
  have e := law_TotalsFractions n0 (lst dGCounted m1 e1) n2 n3
  refine ⟨_, (show law18_TotalsFractions_C _ = some (_, law18_TotalsFractions_out ((law18_TotalsFractions n0 (lst dGCounted m1 e1) n2 n3).getD false)) from rfl).trans (by rw [e]; rfl), ?_⟩
  intro q hq
  simp only [List.mem_cons, List.not_mem_nil, or_false] at hq
  rcases hq with rfl | rfl
  · exact t1.1
  · first | rfl | (rw [e]; rfl)
theorem law18_TotalsFractions_lifted (os : Os) (started : os.Started) (H : Type) (enc : TypeId × Value → H) :
    ReturnsInHanded {} Try.checked os 4 .any (Rows.totalsFractionsSpec.pre6 enc Try.prog Try.f4 Rows.totalsFractionsRow.domain false) (Rows.totalsFractionsSpec.post enc Try.prog Try.f4 false true false false) := by
  refine returnsInHanded_of_change (C := Try.checked) q_own started (by kernel_rfl) Try.func4
    (ChangeSpec.witness6 (enc := enc) (C := Try.checked) false ⟨#[], #[.agg #[.int .i64 0, .int .i64 0, .int .i64 0, .int .i64 0, .int .i64 0, .int .i64 0, .bool false, .bool false, .bool false, .bool false, .bool false, .bool false, .int .i64 0, .int .i64 0, .int .i64 0], .slice none 0 0, .int .i64 0, .int .i64 0], []⟩ 8 (by kernel_rfl) (by kernel_rfl) (by kernel_rfl) (by kernel_rfl)) ?_
  intro W base args ds gs before hval hW _ _
  have hv : Rows.totalsFractionsSpec.vars = [] := rfl
  exact law_calls law18_TotalsFractions_ok ⟨bodyOf Try.f4, by kernel_rfl⟩ Try.func4 (by kernel_rfl) q_a2 8 (by kernel_rfl) (by kernel_rfl) (by kernel_rfl) (tb := 4) (by kernel_rfl) Try.underlying4
    (fun ds gs h1 h2 => by
      have h1' : ds.length = 4 := h1.trans (by kernel_rfl)
      have h2' : gs.length = 0 := h2
      match ds, gs, h1', h2' with
      | [d0, d1, d2, d3], [], _, _ => exact ⟨rfl, rfl, rfl⟩)
    (fun us h => law18_TotalsFractions_con us (by rw [show Try.f4.params.toList = [29, 22, 3, 3] from by kernel_rfl] at h; exact h)) W base args ds gs before hval hW
end Go.Ax
