import Derived.Test.YtgamnldjlncdlaaZL148
import Derived.Test.YtgamnldjlncdlaaZQ3
/- The law EarningsIndexed, for every input. -/
set_option linter.all false
set_option maxRecDepth 100000
namespace Go.Ax
open Go.Proofs Go.Proofs.Ytgamnldjlncdlaa
open Go.ChangeShapes Go.WideShapes Go.ChangeAt Go.RowKit
def yC (x : aF) : Prop := (C6 x.Year) ∧ (C6 x.Amount)
theorem yp {d : Nat} {ds : List D} (h : cJ Try.prog (d + 2) 28 ds) : ∃ x : aF,ds = dn x ∧ yC x := by
  have h := cJ.struct Try.underlying28 h
  simp only [lE] at h
  obtain ⟨a0,b0,rfl,h0,a1,b1,rfl,h1,rfl⟩ := h
  obtain ⟨n0,rfl,r0⟩ := cJ.int Try.underlying3 h0
  obtain ⟨n1,rfl,r1⟩ := cJ.int Try.underlying3 h1
  exact ⟨⟨n0,n1⟩,rfl,⟨C6.of r0,C6.of r1⟩⟩
theorem oQ : ∀ us,js Try.prog 8 [22,26,3,4] us → ∃ p,dH us = some (p, .data (bl true)) ∧ ∀ q ∈ p,q := by
  intro us h
  obtain ⟨v0,w0,rfl,k0,h⟩ := js.cons h
  obtain ⟨v1,w1,rfl,k1,h⟩ := js.cons h
  obtain ⟨v2,w2,rfl,k2,h⟩ := js.cons h
  obtain ⟨v3,w3,rfl,k3,h⟩ := js.cons h
  obtain rfl := js.nil h
  clear h
  obtain ⟨a0,h0,rfl⟩ := pz.cell (by kernel_rfl) k0
  obtain ⟨m0,e0,q0,l0,s0,_⟩ := cJ.slice (d := 7) Try.underlying22 h0
  cases q0
  have t0 := EO (enc := dn) (dec := cz) (R := fun x => yC x) (k0 := 2) (k := Try.prog.cellsOf 28) fa (by kernel_rfl) (fun i hi => by
    have h0 := s0 i hi
    obtain ⟨x,hx,hr⟩ := yp (d := 5) h0
    exact ⟨x,hx,hr⟩)
  obtain ⟨a1,h1,rfl⟩ := pz.agg (by kernel_rfl) k1
  have h1 := cJ.struct (d := 7) Try.underlying26 h1
  simp only [lE] at h1
  obtain ⟨a200,b200,rfl,h200,a201,b201,rfl,h201,a202,b202,rfl,h202,a203,b203,rfl,h203,a204,b204,rfl,h204,a205,b205,rfl,h205,a206,b206,rfl,h206,a207,b207,rfl,h207,a208,b208,rfl,h208,a209,b209,rfl,h209,rfl⟩ := h1
  obtain ⟨n200,rfl,r200⟩ := cJ.int Try.underlying3 h200
  obtain ⟨n201,rfl,r201⟩ := cJ.int Try.underlying3 h201
  obtain ⟨n202,rfl,r202⟩ := cJ.int Try.underlying3 h202
  obtain ⟨m203,e203,rfl,l203,s203,_⟩ := cJ.slice (d := 6) Try.underlying23 h203
  have t203 : aT aR ax 1 (Try.prog.cellsOf 3) m203 e203 := ⟨fun _ => by kernel_rfl,fun i hi => by
    have h0 := s203 i hi
    obtain ⟨x,hx,hr⟩ := cJ.int (d := 5) Try.underlying3 h0
    rw [hx]
    exact .refl _⟩
  obtain ⟨m204,e204,rfl,l204,s204,_⟩ := cJ.slice (d := 6) Try.underlying23 h204
  have t204 : aT aR ax 1 (Try.prog.cellsOf 3) m204 e204 := ⟨fun _ => by kernel_rfl,fun i hi => by
    have h0 := s204 i hi
    obtain ⟨x,hx,hr⟩ := cJ.int (d := 5) Try.underlying3 h0
    rw [hx]
    exact .refl _⟩
  obtain ⟨m205,e205,rfl,l205,s205,_⟩ := cJ.slice (d := 6) Try.underlying24 h205
  have t205 : aT fD aM 1 (Try.prog.cellsOf 23) m205 e205 := ⟨fun _ => by kernel_rfl,fun i hi => by
    have h0 := s205 i hi
    obtain ⟨m,el,hx,_,hs,_⟩ := cJ.slice (d := 5) Try.underlying23 h0
    rw [hx]
    exact bn.cons (.row fj.symm (fun _ => by kernel_rfl) fun j hj => by
      show bn _ (aR ((lst ax m el).getD j _))
      rw [lj hj]
      have h1 := hs j hj
      obtain ⟨x,hx,hr⟩ := cJ.int (d := 4) Try.underlying3 h1
      rw [hx]
      exact .refl _) .nil⟩
  obtain ⟨m206,e206,rfl,l206,s206,_⟩ := cJ.slice (d := 6) Try.underlying24 h206
  have t206 : aT fD aM 1 (Try.prog.cellsOf 23) m206 e206 := ⟨fun _ => by kernel_rfl,fun i hi => by
    have h0 := s206 i hi
    obtain ⟨m,el,hx,_,hs,_⟩ := cJ.slice (d := 5) Try.underlying23 h0
    rw [hx]
    exact bn.cons (.row fj.symm (fun _ => by kernel_rfl) fun j hj => by
      show bn _ (aR ((lst ax m el).getD j _))
      rw [lj hj]
      have h1 := hs j hj
      obtain ⟨x,hx,hr⟩ := cJ.int (d := 4) Try.underlying3 h1
      rw [hx]
      exact .refl _) .nil⟩
  obtain ⟨m207,e207,rfl,l207,s207,_⟩ := cJ.slice (d := 6) Try.underlying24 h207
  have t207 : aT fD aM 1 (Try.prog.cellsOf 23) m207 e207 := ⟨fun _ => by kernel_rfl,fun i hi => by
    have h0 := s207 i hi
    obtain ⟨m,el,hx,_,hs,_⟩ := cJ.slice (d := 5) Try.underlying23 h0
    rw [hx]
    exact bn.cons (.row fj.symm (fun _ => by kernel_rfl) fun j hj => by
      show bn _ (aR ((lst ax m el).getD j _))
      rw [lj hj]
      have h1 := hs j hj
      obtain ⟨x,hx,hr⟩ := cJ.int (d := 4) Try.underlying3 h1
      rw [hx]
      exact .refl _) .nil⟩
  obtain ⟨m208,e208,rfl,l208,s208,_⟩ := cJ.slice (d := 6) Try.underlying24 h208
  have t208 : aT fD aM 1 (Try.prog.cellsOf 23) m208 e208 := ⟨fun _ => by kernel_rfl,fun i hi => by
    have h0 := s208 i hi
    obtain ⟨m,el,hx,_,hs,_⟩ := cJ.slice (d := 5) Try.underlying23 h0
    rw [hx]
    exact bn.cons (.row fj.symm (fun _ => by kernel_rfl) fun j hj => by
      show bn _ (aR ((lst ax m el).getD j _))
      rw [lj hj]
      have h1 := hs j hj
      obtain ⟨x,hx,hr⟩ := cJ.int (d := 4) Try.underlying3 h1
      rw [hx]
      exact .refl _) .nil⟩
  obtain ⟨n209,rfl,r209⟩ := cJ.int Try.underlying3 h209
  obtain ⟨a2,h2,rfl⟩ := pz.cell (by kernel_rfl) k2
  obtain ⟨n2,q2,r2⟩ := cJ.int (d := 7) Try.underlying3 h2
  cases q2
  obtain ⟨a3,h3,rfl⟩ := pz.cell (by kernel_rfl) k3
  obtain ⟨n3,q3⟩ := cJ.bool (d := 7) Try.underlying4 h3
  cases q3
  have e := ub (lst cz m0 e0) (ae.mk n200 n201 n202 (lst ax m203 e203) (lst ax m204 e204) (lst aM m205 e205) (lst aM m206 e206) (lst aM m207 e207) (lst aM m208 e208) n209) n2 n3
  refine ⟨_,(show dH _ = some (_,er ((eh (lst cz m0 e0) (ae.mk n200 n201 n202 (lst ax m203 e203) (lst ax m204 e204) (lst aM m205 e205) (lst aM m206 e206) (lst aM m207 e207) (lst aM m208 e208) n209) n2 n3).getD false)) from rfl).trans (by rw [e]; rfl), ?_⟩
  intro q hq
  rcases List.mem_cons.1 hq with rfl | hq
  · exact t0.1
  rcases List.mem_cons.1 hq with rfl | hq
  · exact t203
  rcases List.mem_cons.1 hq with rfl | hq
  · exact t204
  rcases List.mem_cons.1 hq with rfl | hq
  · exact t205
  rcases List.mem_cons.1 hq with rfl | hq
  · exact t206
  rcases List.mem_cons.1 hq with rfl | hq
  · exact t207
  rcases List.mem_cons.1 hq with rfl | hq
  · exact t208
  rcases List.mem_cons.1 hq with rfl | hq
  · first | rfl | (rw [e]; rfl)
  exact absurd hq List.not_mem_nil
theorem mL (os : Os) (started : os.Started) (H : Type) (enc : TypeId × Value → H) :
    ReturnsInHanded {} Try.checked os 3 .any (Rows.earningsIndexedSpec.pre6 enc Try.prog Try.f3 Rows.earningsIndexedRow.domain false) (Rows.earningsIndexedSpec.post enc Try.prog Try.f3 false true false false) := by
  refine returnsInHanded_of_change (C := Try.checked) Po started (by kernel_rfl) Try.func3
    (ChangeSpec.witness6 (enc := enc) (C := Try.checked) false ⟨#[], #[.slice none 0 0, .agg #[.int .i64 0, .int .i64 0, .int .i64 0, .slice none 0 0, .slice none 0 0, .slice none 0 0, .slice none 0 0, .slice none 0 0, .slice none 0 0, .int .i64 0], .int .i64 0, .bool false],[]⟩ 8 (by kernel_rfl) (by kernel_rfl) (by kernel_rfl) (by kernel_rfl)) ?_
  intro W base args ds gs before hval hW _ _
  have hv : Rows.earningsIndexedSpec.vars = [] := rfl
  exact Fp jz ⟨aH Try.f3,by kernel_rfl⟩ Try.func3 (by kernel_rfl) Ms 8 (by kernel_rfl) (by kernel_rfl) (by kernel_rfl) (tb := 4) (by kernel_rfl) Try.underlying4
    (fun ds gs h1 h2 => by
      have h1' : ds.length = 4 := h1.trans (by kernel_rfl)
      have h2' : gs.length = 0 := h2
      match ds,gs,h1',h2' with
      | [d0,d1,d2,d3],[],_,_ => exact ⟨rfl,rfl,rfl⟩)
    (fun us h => oQ us (by rw [show Try.f3.params.toList = [22,26,3,4] from by kernel_rfl] at h; exact h)) W base args ds gs before hval hW
end Go.Ax
