import Derived.Test.YtgamnldjlncdlaaGreatZL164
import Derived.Test.YtgamnldjlncdlaaGreatZQ3
/- The law CoverageRaw, for every input. -/
set_option linter.all false
set_option maxRecDepth 100000
namespace Go.Ax
open Go.Proofs Go.Proofs.YtgamnldjlncdlaaGreat
open Go.ChangeShapes Go.WideShapes Go.ChangeAt Go.RowKit
def tF (x:aQ):Prop:=(iD x.Issuer)∧(iD x.Number)∧(iD x.Version)∧(iD x.Person)∧(iD x.Kind)∧(iD x.State)∧(iD x.Seat)∧(iD x.From)∧(iD x.Length)∧(iD x.Share)∧(iD x.Amount)∧(iD x.Ref)
theorem zA {d:Nat} {ds:List D} (h:cL Tryz.prog (d+2) 68 ds):∃ x:aQ,ds = cB x∧tF x:=by
  have h:=cL.struct Tryz.underlying68 h
  simp only [l8] at h
  obtain ⟨a0,b0,rfl,h0,a1,b1,rfl,h1,a2,b2,rfl,h2,a3,b3,rfl,h3,a4,b4,rfl,h4,a5,b5,rfl,h5,a6,b6,rfl,h6,a7,b7,rfl,h7,a8,b8,rfl,h8,a9,b9,rfl,h9,a10,b10,rfl,h10,a11,b11,rfl,h11,a12,b12,rfl,h12,rfl⟩:=h
  obtain ⟨n0,rfl,r0⟩:=cL.int Tryz.underlying3 h0
  obtain ⟨n1,rfl,r1⟩:=cL.int Tryz.underlying3 h1
  obtain ⟨n2,rfl,r2⟩:=cL.int Tryz.underlying3 h2
  obtain ⟨n3,rfl⟩:=cL.bool Tryz.underlying4 h3
  obtain ⟨n4,rfl,r4⟩:=cL.int Tryz.underlying3 h4
  obtain ⟨n5,rfl,r5⟩:=cL.int Tryz.underlying3 h5
  obtain ⟨n6,rfl,r6⟩:=cL.int Tryz.underlying3 h6
  obtain ⟨n7,rfl,r7⟩:=cL.int Tryz.underlying3 h7
  obtain ⟨n8,rfl,r8⟩:=cL.int Tryz.underlying3 h8
  obtain ⟨n9,rfl,r9⟩:=cL.int Tryz.underlying3 h9
  obtain ⟨n10,rfl,r10⟩:=cL.int Tryz.underlying3 h10
  obtain ⟨n11,rfl,r11⟩:=cL.int Tryz.underlying3 h11
  obtain ⟨n12,rfl,r12⟩:=cL.int Tryz.underlying3 h12
  exact ⟨⟨n0,n1,n2,n3,n4,n5,n6,n7,n8,n9,n10,n11,n12⟩,rfl,⟨iD.of r0,iD.of r1,iD.of r2,iD.of r4,iD.of r5,iD.of r6,iD.of r7,iD.of r8,iD.of r9,iD.of r10,iD.of r11,iD.of r12⟩⟩
def Te (x:ab):Prop:=(iD x.From)∧(iD x.To)
theorem Qn {d:Nat} {ds:List D} (h:cL Tryz.prog (d+2) 59 ds):∃ x:ab,ds = aN x∧Te x:=by
  have h:=cL.struct Tryz.underlying59 h
  simp only [l8] at h
  obtain ⟨a0,b0,rfl,h0,a1,b1,rfl,h1,rfl⟩:=h
  obtain ⟨n0,rfl,r0⟩:=cL.int Tryz.underlying3 h0
  obtain ⟨n1,rfl,r1⟩:=cL.int Tryz.underlying3 h1
  exact ⟨⟨n0,n1⟩,rfl,⟨iD.of r0,iD.of r1⟩⟩
def Mp (x:ar):Prop:=(Te x.Span)∧(iD x.State)∧(iD x.Rule)
theorem Ku {d:Nat} {ds:List D} (h:cL Tryz.prog (d+3) 120 ds):∃ x:ar,ds = iC x∧Mp x:=by
  have h:=cL.struct Tryz.underlying120 h
  simp only [l8] at h
  obtain ⟨a0,b0,rfl,h0,a1,b1,rfl,h1,a2,b2,rfl,h2,rfl⟩:=h
  obtain ⟨n0,rfl,r0⟩:=Qn h0
  obtain ⟨n1,rfl,r1⟩:=cL.int Tryz.underlying3 h1
  obtain ⟨n2,rfl,r2⟩:=cL.int Tryz.underlying3 h2
  exact ⟨⟨n0,n1,n2⟩,rfl,⟨r0,iD.of r1,iD.of r2⟩⟩
theorem Dp:∀ us,nG Tryz.prog 8 [22,23,24,3] us→∃ p,jS us = some (p, .data (bl true))∧∀ q∈p,q:=by
  intro us h
  obtain ⟨v0,w0,rfl,k0,h⟩:=nG.cons h
  obtain ⟨v1,w1,rfl,k1,h⟩:=nG.cons h
  obtain ⟨v2,w2,rfl,k2,h⟩:=nG.cons h
  obtain ⟨v3,w3,rfl,k3,h⟩:=nG.cons h
  obtain rfl:=nG.nil h
  clear h
  obtain ⟨a0,h0,rfl⟩:=zG.cell (by kernel_rfl) k0
  obtain ⟨m0,e0,q0,l0,s0,_⟩:=cL.slice (d:=7) Tryz.underlying22 h0
  cases q0
  have t0:=Oc (enc:=cB) (dec:=dS) (R:=fun x=>tF x) (k0:=13) (k:=Tryz.prog.cellsOf 68) io (by kernel_rfl) (fun i hi=>by
    have h0:=s0 i hi
    obtain ⟨x,hx,hr⟩:=zA (d:=5) h0
    exact ⟨x,hx,hr⟩)
  obtain ⟨a1,h1,rfl⟩:=zG.cell (by kernel_rfl) k1
  obtain ⟨m1,e1,q1,l1,s1,_⟩:=cL.slice (d:=7) Tryz.underlying23 h1
  cases q1
  have t1:=Oc (enc:=iC) (dec:=ko) (R:=fun x=>Mp x) (k0:=4) (k:=Tryz.prog.cellsOf 120) hU (by kernel_rfl) (fun i hi=>by
    have h0:=s1 i hi
    obtain ⟨x,hx,hr⟩:=Ku (d:=4) h0
    exact ⟨x,hx,hr⟩)
  obtain ⟨a2,h2,rfl⟩:=zG.cell (by kernel_rfl) k2
  obtain ⟨m2,e2,q2,l2,s2,_⟩:=cL.slice (d:=7) Tryz.underlying24 h2
  cases q2
  have t2:aK aR dM 10 (Tryz.prog.cellsOf 39) m2 e2:=⟨fun _=>by kernel_rfl,fun i hi=>by
    have h0:=s2 i hi
    revert h0
    generalize e2 i = ds
    intro h0
    have hq:=cL.struct (d:=5) Tryz.underlying39 h0
    simp only [l8] at hq
    obtain ⟨a900,b900,rfl,h900,a901,b901,rfl,h901,a902,b902,rfl,h902,a903,b903,rfl,h903,a904,b904,rfl,h904,a905,b905,rfl,h905,a906,b906,rfl,h906,a907,b907,rfl,h907,a908,b908,rfl,h908,a909,b909,rfl,h909,rfl⟩:=hq
    obtain ⟨n900,rfl,r900⟩:=cL.int Tryz.underlying3 h900
    obtain ⟨n901,rfl,r901⟩:=cL.int Tryz.underlying3 h901
    obtain ⟨n902,rfl,r902⟩:=cL.int Tryz.underlying3 h902
    obtain ⟨m903,e903,rfl,l903,s903,_⟩:=cL.slice (d:=4) Tryz.underlying36 h903
    have t903:aK aT bm 1 (Tryz.prog.cellsOf 3) m903 e903:=⟨fun _=>by kernel_rfl,fun i hi=>by
      have h0:=s903 i hi
      obtain ⟨x,hx,hr⟩:=cL.int (d:=3) Tryz.underlying3 h0
      rw [hx]
      exact .refl _⟩
    obtain ⟨m904,e904,rfl,l904,s904,_⟩:=cL.slice (d:=4) Tryz.underlying36 h904
    have t904:aK aT bm 1 (Tryz.prog.cellsOf 3) m904 e904:=⟨fun _=>by kernel_rfl,fun i hi=>by
      have h0:=s904 i hi
      obtain ⟨x,hx,hr⟩:=cL.int (d:=3) Tryz.underlying3 h0
      rw [hx]
      exact .refl _⟩
    obtain ⟨m905,e905,rfl,l905,s905,_⟩:=cL.slice (d:=4) Tryz.underlying37 h905
    have t905:aK kH gZ 1 (Tryz.prog.cellsOf 36) m905 e905:=⟨fun _=>by kernel_rfl,fun i hi=>by
      have h0:=s905 i hi
      obtain ⟨m,el,hx,_,hs,_⟩:=cL.slice (d:=3) Tryz.underlying36 h0
      rw [hx]
      exact be.cons (.row dL.symm (fun _=>by kernel_rfl) fun j hj=>by
        show be _ (aT ((lst bm m el).getD j _))
        rw [re hj]
        have h1:=hs j hj
        obtain ⟨x,hx,hr⟩:=cL.int (d:=2) Tryz.underlying3 h1
        rw [hx]
        exact .refl _) .nil⟩
    obtain ⟨m906,e906,rfl,l906,s906,_⟩:=cL.slice (d:=4) Tryz.underlying37 h906
    have t906:aK kH gZ 1 (Tryz.prog.cellsOf 36) m906 e906:=⟨fun _=>by kernel_rfl,fun i hi=>by
      have h0:=s906 i hi
      obtain ⟨m,el,hx,_,hs,_⟩:=cL.slice (d:=3) Tryz.underlying36 h0
      rw [hx]
      exact be.cons (.row dL.symm (fun _=>by kernel_rfl) fun j hj=>by
        show be _ (aT ((lst bm m el).getD j _))
        rw [re hj]
        have h1:=hs j hj
        obtain ⟨x,hx,hr⟩:=cL.int (d:=2) Tryz.underlying3 h1
        rw [hx]
        exact .refl _) .nil⟩
    obtain ⟨m907,e907,rfl,l907,s907,_⟩:=cL.slice (d:=4) Tryz.underlying37 h907
    have t907:aK kH gZ 1 (Tryz.prog.cellsOf 36) m907 e907:=⟨fun _=>by kernel_rfl,fun i hi=>by
      have h0:=s907 i hi
      obtain ⟨m,el,hx,_,hs,_⟩:=cL.slice (d:=3) Tryz.underlying36 h0
      rw [hx]
      exact be.cons (.row dL.symm (fun _=>by kernel_rfl) fun j hj=>by
        show be _ (aT ((lst bm m el).getD j _))
        rw [re hj]
        have h1:=hs j hj
        obtain ⟨x,hx,hr⟩:=cL.int (d:=2) Tryz.underlying3 h1
        rw [hx]
        exact .refl _) .nil⟩
    obtain ⟨m908,e908,rfl,l908,s908,_⟩:=cL.slice (d:=4) Tryz.underlying37 h908
    have t908:aK kH gZ 1 (Tryz.prog.cellsOf 36) m908 e908:=⟨fun _=>by kernel_rfl,fun i hi=>by
      have h0:=s908 i hi
      obtain ⟨m,el,hx,_,hs,_⟩:=cL.slice (d:=3) Tryz.underlying36 h0
      rw [hx]
      exact be.cons (.row dL.symm (fun _=>by kernel_rfl) fun j hj=>by
        show be _ (aT ((lst bm m el).getD j _))
        rw [re hj]
        have h1:=hs j hj
        obtain ⟨x,hx,hr⟩:=cL.int (d:=2) Tryz.underlying3 h1
        rw [hx]
        exact .refl _) .nil⟩
    obtain ⟨n909,rfl,r909⟩:=cL.int Tryz.underlying3 h909
    exact (be.cons (.refl _) (be.cons (.refl _) (be.cons (.refl _) (be.cons (dU.ls t903.1 (ae.of_ok t903)) (be.cons (dU.ls t904.1 (ae.of_ok t904)) (be.cons (dU.ls t905.1 (ae.of_ok t905)) (be.cons (dU.ls t906.1 (ae.of_ok t906)) (be.cons (dU.ls t907.1 (ae.of_ok t907)) (be.cons (dU.ls t908.1 (ae.of_ok t908)) (be.cons (.refl _) .nil))))))))))⟩
  obtain ⟨a3,h3,rfl⟩:=zG.cell (by kernel_rfl) k3
  obtain ⟨n3,q3,r3⟩:=cL.int (d:=7) Tryz.underlying3 h3
  cases q3
  have e:=K5 (lst dS m0 e0) (lst ko m1 e1) (lst dM m2 e2) n3
  refine ⟨_,(show jS _ = some (_,rQ ((pL (lst dS m0 e0) (lst ko m1 e1) (lst dM m2 e2) n3).getD false)) from rfl).trans (by rw [e]; rfl), ?_⟩
  intro q hq
  rcases List.mem_cons.1 hq with rfl | hq
  · exact t0.1
  rcases List.mem_cons.1 hq with rfl | hq
  · exact t1.1
  rcases List.mem_cons.1 hq with rfl | hq
  · exact t2
  rcases List.mem_cons.1 hq with rfl | hq
  · first | rfl | (rw [e]; rfl)
  exact absurd hq List.not_mem_nil
theorem yR (os:Os) (started:os.Started) (H:Type) (enc:TypeId × Value→H) :
    ReturnsInHanded {} Tryz.checked os 3 .any (Rows.coverageRawSpec.pre6 enc Tryz.prog Tryz.f3 Rows.coverageRawRow.domain false) (Rows.coverageRawSpec.post enc Tryz.prog Tryz.f3 false true false false):=by
  refine returnsInHanded_of_change (C:=Tryz.checked) aow started (by kernel_rfl) Tryz.func3
    (ChangeSpec.witness6 (enc:=enc) (C:=Tryz.checked) false ⟨#[], #[.slice none 0 0, .slice none 0 0, .slice none 0 0, .int .i64 0],[]⟩ 8 (by kernel_rfl) (by kernel_rfl) (by kernel_rfl) (by kernel_rfl)) ?_
  intro W base args ds gs before hval hW _ _
  have hv:Rows.coverageRawSpec.vars = []:=rfl
  exact WW sZ ⟨ao Tryz.f3,by kernel_rfl⟩ Tryz.func3 (by kernel_rfl) alA 8 (by kernel_rfl) (by kernel_rfl) (by kernel_rfl) (tb:=4) (by kernel_rfl) Tryz.underlying4
    (fun ds gs h1 h2=>by
      have h1':ds.length = 4:=h1.trans (by kernel_rfl)
      have h2':gs.length = 0:=h2
      match ds,gs,h1',h2' with
      | [d0,d1,d2,d3],[],_,_=>exact ⟨rfl,rfl,rfl⟩)
    (fun us h=>Dp us (by rw [show Tryz.f3.params.toList = [22,23,24,3] from by kernel_rfl] at h; exact h)) W base args ds gs before hval hW
end Go.Ax
