import Derived.Test.YtgamnldjlncdlaaGreatZL167
import Derived.Test.YtgamnldjlncdlaaGreatZQ3
/- The law CoverageLimits, for every input. -/
set_option linter.all false
set_option maxRecDepth 100000
namespace Go.Ax
open Go.Proofs Go.Proofs.YtgamnldjlncdlaaGreat
open Go.ChangeShapes Go.WideShapes Go.ChangeAt Go.RowKit
def s5 (x:aN):Prop:=(lT x.Issuer)∧(lT x.Number)∧(lT x.Version)∧(lT x.Person)∧(lT x.Kind)∧(lT x.State)∧(lT x.Seat)∧(lT x.From)∧(lT x.Length)∧(lT x.Share)∧(lT x.Amount)∧(lT x.Ref)
theorem yj {d:Nat} {ds:List D} (h:cR Tryz.prog (d+2) 68 ds):∃ x:aN,ds = ct x∧s5 x:=by
  have h:=cR.struct Tryz.underlying68 h
  simp only [ro] at h
  obtain ⟨a0,b0,rfl,h0,a1,b1,rfl,h1,a2,b2,rfl,h2,a3,b3,rfl,h3,a4,b4,rfl,h4,a5,b5,rfl,h5,a6,b6,rfl,h6,a7,b7,rfl,h7,a8,b8,rfl,h8,a9,b9,rfl,h9,a10,b10,rfl,h10,a11,b11,rfl,h11,a12,b12,rfl,h12,rfl⟩:=h
  obtain ⟨n0,rfl,r0⟩:=cR.int Tryz.underlying3 h0
  obtain ⟨n1,rfl,r1⟩:=cR.int Tryz.underlying3 h1
  obtain ⟨n2,rfl,r2⟩:=cR.int Tryz.underlying3 h2
  obtain ⟨n3,rfl⟩:=cR.bool Tryz.underlying4 h3
  obtain ⟨n4,rfl,r4⟩:=cR.int Tryz.underlying3 h4
  obtain ⟨n5,rfl,r5⟩:=cR.int Tryz.underlying3 h5
  obtain ⟨n6,rfl,r6⟩:=cR.int Tryz.underlying3 h6
  obtain ⟨n7,rfl,r7⟩:=cR.int Tryz.underlying3 h7
  obtain ⟨n8,rfl,r8⟩:=cR.int Tryz.underlying3 h8
  obtain ⟨n9,rfl,r9⟩:=cR.int Tryz.underlying3 h9
  obtain ⟨n10,rfl,r10⟩:=cR.int Tryz.underlying3 h10
  obtain ⟨n11,rfl,r11⟩:=cR.int Tryz.underlying3 h11
  obtain ⟨n12,rfl,r12⟩:=cR.int Tryz.underlying3 h12
  exact ⟨⟨n0,n1,n2,n3,n4,n5,n6,n7,n8,n9,n10,n11,n12⟩,rfl,⟨lT.of r0,lT.of r1,lT.of r2,lT.of r4,lT.of r5,lT.of r6,lT.of r7,lT.of r8,lT.of r9,lT.of r10,lT.of r11,lT.of r12⟩⟩
theorem yg:∀ us,pp Tryz.prog 8 [22,39,3] us→∃ p,iB us = some (p, .data (bl true))∧∀ q∈p,q:=by
  intro us h
  obtain ⟨v0,w0,rfl,k0,h⟩:=pp.cons h
  obtain ⟨v1,w1,rfl,k1,h⟩:=pp.cons h
  obtain ⟨v2,w2,rfl,k2,h⟩:=pp.cons h
  obtain rfl:=pp.nil h
  clear h
  obtain ⟨a0,h0,rfl⟩:=AI.cell (by kernel_rfl) k0
  obtain ⟨m0,e0,q0,l0,s0,_⟩:=cR.slice (d:=7) Tryz.underlying22 h0
  cases q0
  have t0:=Vj (enc:=ct) (dec:=dV) (R:=fun x=>s5 x) (k0:=13) (k:=Tryz.prog.cellsOf 68) iu (by kernel_rfl) (fun i hi=>by
    have h0:=s0 i hi
    obtain ⟨x,hx,hr⟩:=yj (d:=5) h0
    exact ⟨x,hx,hr⟩)
  obtain ⟨a1,h1,rfl⟩:=AI.agg (by kernel_rfl) k1
  have h1:=cR.struct (d:=7) Tryz.underlying39 h1
  simp only [ro] at h1
  obtain ⟨a200,b200,rfl,h200,a201,b201,rfl,h201,a202,b202,rfl,h202,a203,b203,rfl,h203,a204,b204,rfl,h204,a205,b205,rfl,h205,a206,b206,rfl,h206,a207,b207,rfl,h207,a208,b208,rfl,h208,a209,b209,rfl,h209,rfl⟩:=h1
  obtain ⟨n200,rfl,r200⟩:=cR.int Tryz.underlying3 h200
  obtain ⟨n201,rfl,r201⟩:=cR.int Tryz.underlying3 h201
  obtain ⟨n202,rfl,r202⟩:=cR.int Tryz.underlying3 h202
  obtain ⟨m203,e203,rfl,l203,s203,_⟩:=cR.slice (d:=6) Tryz.underlying36 h203
  have t203:aJ aP bh 1 (Tryz.prog.cellsOf 3) m203 e203:=⟨fun _=>by kernel_rfl,fun i hi=>by
    have h0:=s203 i hi
    obtain ⟨x,hx,hr⟩:=cR.int (d:=5) Tryz.underlying3 h0
    rw [hx]
    exact .refl _⟩
  obtain ⟨m204,e204,rfl,l204,s204,_⟩:=cR.slice (d:=6) Tryz.underlying36 h204
  have t204:aJ aP bh 1 (Tryz.prog.cellsOf 3) m204 e204:=⟨fun _=>by kernel_rfl,fun i hi=>by
    have h0:=s204 i hi
    obtain ⟨x,hx,hr⟩:=cR.int (d:=5) Tryz.underlying3 h0
    rw [hx]
    exact .refl _⟩
  obtain ⟨m205,e205,rfl,l205,s205,_⟩:=cR.slice (d:=6) Tryz.underlying37 h205
  have t205:aJ kE fg 1 (Tryz.prog.cellsOf 36) m205 e205:=⟨fun _=>by kernel_rfl,fun i hi=>by
    have h0:=s205 i hi
    obtain ⟨m,el,hx,_,hs,_⟩:=cR.slice (d:=5) Tryz.underlying36 h0
    rw [hx]
    exact be.cons (.row dO.symm (fun _=>by kernel_rfl) fun j hj=>by
      show be _ (aP ((lst bh m el).getD j _))
      rw [qW hj]
      have h1:=hs j hj
      obtain ⟨x,hx,hr⟩:=cR.int (d:=4) Tryz.underlying3 h1
      rw [hx]
      exact .refl _) .nil⟩
  obtain ⟨m206,e206,rfl,l206,s206,_⟩:=cR.slice (d:=6) Tryz.underlying37 h206
  have t206:aJ kE fg 1 (Tryz.prog.cellsOf 36) m206 e206:=⟨fun _=>by kernel_rfl,fun i hi=>by
    have h0:=s206 i hi
    obtain ⟨m,el,hx,_,hs,_⟩:=cR.slice (d:=5) Tryz.underlying36 h0
    rw [hx]
    exact be.cons (.row dO.symm (fun _=>by kernel_rfl) fun j hj=>by
      show be _ (aP ((lst bh m el).getD j _))
      rw [qW hj]
      have h1:=hs j hj
      obtain ⟨x,hx,hr⟩:=cR.int (d:=4) Tryz.underlying3 h1
      rw [hx]
      exact .refl _) .nil⟩
  obtain ⟨m207,e207,rfl,l207,s207,_⟩:=cR.slice (d:=6) Tryz.underlying37 h207
  have t207:aJ kE fg 1 (Tryz.prog.cellsOf 36) m207 e207:=⟨fun _=>by kernel_rfl,fun i hi=>by
    have h0:=s207 i hi
    obtain ⟨m,el,hx,_,hs,_⟩:=cR.slice (d:=5) Tryz.underlying36 h0
    rw [hx]
    exact be.cons (.row dO.symm (fun _=>by kernel_rfl) fun j hj=>by
      show be _ (aP ((lst bh m el).getD j _))
      rw [qW hj]
      have h1:=hs j hj
      obtain ⟨x,hx,hr⟩:=cR.int (d:=4) Tryz.underlying3 h1
      rw [hx]
      exact .refl _) .nil⟩
  obtain ⟨m208,e208,rfl,l208,s208,_⟩:=cR.slice (d:=6) Tryz.underlying37 h208
  have t208:aJ kE fg 1 (Tryz.prog.cellsOf 36) m208 e208:=⟨fun _=>by kernel_rfl,fun i hi=>by
    have h0:=s208 i hi
    obtain ⟨m,el,hx,_,hs,_⟩:=cR.slice (d:=5) Tryz.underlying36 h0
    rw [hx]
    exact be.cons (.row dO.symm (fun _=>by kernel_rfl) fun j hj=>by
      show be _ (aP ((lst bh m el).getD j _))
      rw [qW hj]
      have h1:=hs j hj
      obtain ⟨x,hx,hr⟩:=cR.int (d:=4) Tryz.underlying3 h1
      rw [hx]
      exact .refl _) .nil⟩
  obtain ⟨n209,rfl,r209⟩:=cR.int Tryz.underlying3 h209
  obtain ⟨a2,h2,rfl⟩:=AI.cell (by kernel_rfl) k2
  obtain ⟨n2,q2,r2⟩:=cR.int (d:=7) Tryz.underlying3 h2
  cases q2
  have e:=FS (lst dV m0 e0) (al.mk n200 n201 n202 (lst bh m203 e203) (lst bh m204 e204) (lst fg m205 e205) (lst fg m206 e206) (lst fg m207 e207) (lst fg m208 e208) n209) n2
  refine ⟨_,(show iB _ = some (_,nX ((mq (lst dV m0 e0) (al.mk n200 n201 n202 (lst bh m203 e203) (lst bh m204 e204) (lst fg m205 e205) (lst fg m206 e206) (lst fg m207 e207) (lst fg m208 e208) n209) n2).getD false)) from rfl).trans (by rw [e]; rfl), ?_⟩
  intro q hq
  rcases List.mem_cons.1 hq with rfl | hq
  · exact t0.1
  rcases List.mem_cons.1 hq with rfl | hq
  · exact t203
  rcases List.mem_cons.1 hq with rfl | hq
  · exact t204
  rcases List.mem_cons.1 hq with rfl | hq
  · exact t205
  rcases List.mem_cons.1 hq with rfl | hq
  · exact t206
  rcases List.mem_cons.1 hq with rfl | hq
  · exact t207
  rcases List.mem_cons.1 hq with rfl | hq
  · exact t208
  rcases List.mem_cons.1 hq with rfl | hq
  · first | rfl | (rw [e]; rfl)
  exact absurd hq List.not_mem_nil
theorem vo (os:Os) (started:os.Started) (H:Type) (enc:TypeId × Value→H) :
    ReturnsInHanded {} Tryz.checked os 4 .any (Rows.coverageLimitsSpec.pre6 enc Tryz.prog Tryz.f4 Rows.coverageLimitsRow.domain false) (Rows.coverageLimitsSpec.post enc Tryz.prog Tryz.f4 false true false false):=by
  refine returnsInHanded_of_change (C:=Tryz.checked) amI started (by kernel_rfl) Tryz.func4
    (ChangeSpec.witness6 (enc:=enc) (C:=Tryz.checked) false ⟨#[], #[.slice none 0 0, .agg #[.int .i64 0, .int .i64 0, .int .i64 0, .slice none 0 0, .slice none 0 0, .slice none 0 0, .slice none 0 0, .slice none 0 0, .slice none 0 0, .int .i64 0], .int .i64 0],[]⟩ 8 (by kernel_rfl) (by kernel_rfl) (by kernel_rfl) (by kernel_rfl)) ?_
  intro W base args ds gs before hval hW _ _
  have hv:Rows.coverageLimitsSpec.vars = []:=rfl
  exact Uj pr ⟨an Tryz.f4,by kernel_rfl⟩ Tryz.func4 (by kernel_rfl) agM 8 (by kernel_rfl) (by kernel_rfl) (by kernel_rfl) (tb:=4) (by kernel_rfl) Tryz.underlying4
    (fun ds gs h1 h2=>by
      have h1':ds.length = 3:=h1.trans (by kernel_rfl)
      have h2':gs.length = 0:=h2
      match ds,gs,h1',h2' with
      | [d0,d1,d2],[],_,_=>exact ⟨rfl,rfl,rfl⟩)
    (fun us h=>yg us (by rw [show Tryz.f4.params.toList = [22,39,3] from by kernel_rfl] at h; exact h)) W base args ds gs before hval hW
end Go.Ax
