import Derived.Test.YtkijjjdaijjpaaaGreatZLW4
import Derived.Test.YtkijjjdaijjpaaaGreatZQ3
/- The law ConversionSurvivorsAgree, for every input. -/
set_option linter.all false
set_option maxRecDepth 100000
namespace Go.Ax
open Go.Proofs Go.Proofs.YtkijjjdaijjpaaaGreat
open Go.ChangeShapes Go.WideShapes Go.ChangeAt Go.RowKit
def uc (x : ax) : Prop := (lT x.Issuer) ∧ (lT x.Number) ∧ (lT x.Version) ∧ (lT x.Person) ∧ (lT x.Kind) ∧ (lT x.State) ∧ (lT x.Seat) ∧ (lT x.From) ∧ (lT x.Length) ∧ (lT x.Share) ∧ (lT x.Amount) ∧ (lT x.Ref)
theorem yy {d : Nat} {ds : List D} (h : eD Tryz.prog (d + 2) 47 ds) : ∃ x : ax,ds = bD x ∧ uc x := by
  have h := eD.struct Tryz.underlying47 h
  simp only [vt] at h
  obtain ⟨a0,b0,rfl,h0,a1,b1,rfl,h1,a2,b2,rfl,h2,a3,b3,rfl,h3,a4,b4,rfl,h4,a5,b5,rfl,h5,a6,b6,rfl,h6,a7,b7,rfl,h7,a8,b8,rfl,h8,a9,b9,rfl,h9,a10,b10,rfl,h10,a11,b11,rfl,h11,a12,b12,rfl,h12,rfl⟩ := h
  obtain ⟨n0,rfl,r0⟩ := eD.int Tryz.underlying3 h0
  obtain ⟨n1,rfl,r1⟩ := eD.int Tryz.underlying3 h1
  obtain ⟨n2,rfl,r2⟩ := eD.int Tryz.underlying3 h2
  obtain ⟨n3,rfl⟩ := eD.bool Tryz.underlying4 h3
  obtain ⟨n4,rfl,r4⟩ := eD.int Tryz.underlying3 h4
  obtain ⟨n5,rfl,r5⟩ := eD.int Tryz.underlying3 h5
  obtain ⟨n6,rfl,r6⟩ := eD.int Tryz.underlying3 h6
  obtain ⟨n7,rfl,r7⟩ := eD.int Tryz.underlying3 h7
  obtain ⟨n8,rfl,r8⟩ := eD.int Tryz.underlying3 h8
  obtain ⟨n9,rfl,r9⟩ := eD.int Tryz.underlying3 h9
  obtain ⟨n10,rfl,r10⟩ := eD.int Tryz.underlying3 h10
  obtain ⟨n11,rfl,r11⟩ := eD.int Tryz.underlying3 h11
  obtain ⟨n12,rfl,r12⟩ := eD.int Tryz.underlying3 h12
  exact ⟨⟨n0,n1,n2,n3,n4,n5,n6,n7,n8,n9,n10,n11,n12⟩,rfl,⟨lT.of r0,lT.of r1,lT.of r2,lT.of r4,lT.of r5,lT.of r6,lT.of r7,lT.of r8,lT.of r9,lT.of r10,lT.of r11,lT.of r12⟩⟩
theorem qh : ∀ us,ow Tryz.prog 8 [22,23,3,3] us → ∃ p,eI us = some (p, .data (bl true)) ∧ ∀ q ∈ p,q := by
  intro us h
  obtain ⟨v0,w0,rfl,k0,h⟩ := ow.cons h
  obtain ⟨v1,w1,rfl,k1,h⟩ := ow.cons h
  obtain ⟨v2,w2,rfl,k2,h⟩ := ow.cons h
  obtain ⟨v3,w3,rfl,k3,h⟩ := ow.cons h
  obtain rfl := ow.nil h
  clear h
  obtain ⟨a0,h0,rfl⟩ := xI.cell (by kernel_rfl) k0
  obtain ⟨m0,e0,q0,l0,s0,_⟩ := eD.slice (d := 7) Tryz.underlying22 h0
  cases q0
  have t0 := K8 (enc := cP) (dec := cC) (R := fun x => lT x) (k0 := 1) (k := Tryz.prog.cellsOf 3) bj (by kernel_rfl) (fun i hi => by
    have h0 := s0 i hi
    obtain ⟨x,hx,hr⟩ := eD.int (d := 6) Tryz.underlying3 h0
    exact ⟨x,hx,lT.of hr⟩)
  obtain ⟨a1,h1,rfl⟩ := xI.cell (by kernel_rfl) k1
  obtain ⟨m1,e1,q1,l1,s1,_⟩ := eD.slice (d := 7) Tryz.underlying23 h1
  cases q1
  have t1 := K8 (enc := bD) (dec := d7) (R := fun x => uc x) (k0 := 13) (k := Tryz.prog.cellsOf 47) fi (by kernel_rfl) (fun i hi => by
    have h0 := s1 i hi
    obtain ⟨x,hx,hr⟩ := yy (d := 5) h0
    exact ⟨x,hx,hr⟩)
  obtain ⟨a2,h2,rfl⟩ := xI.cell (by kernel_rfl) k2
  obtain ⟨n2,q2,r2⟩ := eD.int (d := 7) Tryz.underlying3 h2
  cases q2
  obtain ⟨a3,h3,rfl⟩ := xI.cell (by kernel_rfl) k3
  obtain ⟨n3,q3,r3⟩ := eD.int (d := 7) Tryz.underlying3 h3
  cases q3
  have e := uo (lst cC m0 e0) (lst d7 m1 e1) n2 n3 (by rw [t0.2.1]; exact l0)
  refine ⟨_,(show eI _ = some (_,j5 ((iH (lst cC m0 e0) (lst d7 m1 e1) n2 n3).getD false)) from rfl).trans (by rw [e]; rfl), ?_⟩
  intro q hq
  rcases List.mem_cons.1 hq with rfl | hq
  · exact t0.1
  rcases List.mem_cons.1 hq with rfl | hq
  · exact t1.1
  rcases List.mem_cons.1 hq with rfl | hq
  · first | rfl | (rw [e]; rfl)
  exact absurd hq List.not_mem_nil
theorem oG (os : Os) (started : os.Started) (H : Type) (enc : TypeId × Value → H) :
    ReturnsInHanded {} Tryz.checked os 3 .any (Rows.conversionSurvivorsAgreeSpec.pre6 enc Tryz.prog Tryz.f3 Rows.conversionSurvivorsAgreeRow.domain false) (Rows.conversionSurvivorsAgreeSpec.post enc Tryz.prog Tryz.f3 false true false false) := by
  refine returnsInHanded_of_change (C := Tryz.checked) ajv started (by kernel_rfl) Tryz.func3
    (ChangeSpec.witness6 (enc := enc) (C := Tryz.checked) false ⟨#[], #[.slice none 0 0, .slice none 0 0, .int .i64 0, .int .i64 0],[]⟩ 8 (by kernel_rfl) (by kernel_rfl) (by kernel_rfl) (by kernel_rfl)) ?_
  intro W base args ds gs before hval hW _ _
  have hv : Rows.conversionSurvivorsAgreeSpec.vars = [] := rfl
  exact Vc kv ⟨ar Tryz.f3,by kernel_rfl⟩ Tryz.func3 (by kernel_rfl) agr 8 (by kernel_rfl) (by kernel_rfl) (by kernel_rfl) (tb := 4) (by kernel_rfl) Tryz.underlying4
    (fun ds gs h1 h2 => by
      have h1' : ds.length = 4 := h1.trans (by kernel_rfl)
      have h2' : gs.length = 0 := h2
      match ds,gs,h1',h2' with
      | [d0,d1,d2,d3],[],_,_ => exact ⟨rfl,rfl,rfl⟩)
    (fun us h => qh us (by rw [show Tryz.f3.params.toList = [22,23,3,3] from by kernel_rfl] at h; exact h)) W base args ds gs before hval hW
end Go.Ax
