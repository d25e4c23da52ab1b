import Derived.Test.YtokecajedkojlaaGreatZP12
set_option linter.all false
/- What the states claim, by the program and by the document. -/
set_option maxRecDepth 100000
namespace Go.Ax
def PO (s ref:Int) (f:GFact):Bool:=(af f.Kind 10&&af f.State s)&&af f.Ref ref
def qp (c:List GFact) (s ref:Int):List GSpan:=(c.filter (PO s ref)).map GFact.Span
theorem Nn (c:List GFact) (s r:Int):(qp c s r).length≤c.length:=by
  unfold qp
  rw [List.length_map]
  exact List.length_filter_le _ _
theorem gB (l:List GSpan) (s:GSpan):(bi l s).length≤73050:=o4 (ew l s).1
noncomputable def DK (limit:Int) (d:List GSpan):List GSpan:=if limit = 0 then d else pm limit (bE d)
theorem Nx (limit:Int) (d:List GSpan):(DK limit d).length≤d.length:=by
  unfold DK
  split
  · exact Nat.le_refl _
  · exact Nat.le_trans (JI _ _) (dn d).2.2
noncomputable def yc (l:List GFact) (s:Int) (past:GSpan) (limit ref:Int):List GSpan :=
  if 0 < (qp (l.filter bC) s ref).length then DK limit (bi (bi (qp (l.filter bC) s ref) (ig l)) past) else []
theorem zN (l:List GSpan) (s:GSpan):(bi l s).length≤l.length+1:=by
  have h1:=(dn l).2.2
  have h2:(bE [s]).length≤1:=(dn [s]).2.2
  have key:∀ (a b:List GSpan),(et a b).length≤a.length+b.length:=by
    intro a b
    induction a,b using et.induct with
    | case1 b=>rw [pn]; simp
    | case2 s r=>rw [ng]; simp
    | case3 s r t u ih1 ih2 =>
      have:=GQ s t
      rw [m6,List.length_append]
      split
      · simp only [List.length_cons] at ih1 ⊢; omega
      · simp only [List.length_cons] at ih2 ⊢; omega
  have:=key (bE l) (bE [s])
  unfold bi
  omega
theorem O5 (l:List GFact):(l.filter bC).length≤l.length:=List.length_filter_le _ _
theorem Bz (l:List GFact) (hl:l.length≤900) (s:Int) (past:GSpan) (limit ref:Int):(yc l s past limit ref).length≤902:=by
  have h1:=Nn (l.filter bC) s ref
  have h2:=O5 l
  have h3:=zN (qp (l.filter bC) s ref) (ig l)
  have h4:=zN (bi (qp (l.filter bC) s ref) (ig l)) past
  unfold yc
  split
  · have:=Nx limit (bi (bi (qp (l.filter bC) s ref) (ig l)) past); omega
  · simp
noncomputable def QE (l:List GFact) (s:Int) (past:GSpan) (limit:Int):List GSpan:=(List.range 99).flatMap fun (i:Nat)=>yc l s past limit ((i:Int)+1)
theorem rT {T A:Type} (g:T→List A) (B:Nat):∀ l:List T,(∀ x∈l,(g x).length≤B)→(l.flatMap g).length≤l.length*B
  | [],_=>by simp
  | x :: r,h=>by
    have h1:=h x (List.mem_cons_self)
    have h2:=rT g B r fun y hy=>h y (List.mem_cons_of_mem _ hy)
    rw [List.flatMap_cons,List.length_append,List.length_cons,Nat.succ_mul]
    omega
theorem RZ (l:List GFact) (hl:l.length≤900) (s:Int) (past:GSpan) (limit:Int):(QE l s past limit).length≤99*902:=by
  have:=rT (fun (i:Nat)=>yc l s past limit ((i:Int)+1)) 902 (List.range 99) fun x _=>Bz _ hl _ _ _ _
  rw [List.length_range] at this
  exact this
theorem Ux (l:List GFact) (s b limit ch:Int) (out:List GSpan) (c:List GFact) (hc:c.length≤1000000):bz l s b limit ch 0 c out [] = bz l s b limit ch (c.length:Int) c out (qp c s ch):=by
  unfold qp
  refine xQ c (fun i d=>bz l s b limit ch i c out d) (PO s ch) GFact.Span fun i d hi hd=>?_
  show bz _ _ _ _ _ _ _ _ _ = bz _ _ _ _ _ _ _ _ _
  rw [lX]
  simp only [aT hi,br,cond_true,aC,Bool.or_true,be hi,bf hi (by omega)]
  rw [jx (by omega) (by omega),bD,bD]
  show (bif PO s ch c[i] then _ else _) = _
  cases PO s ch c[i] <;> rfl
theorem wh (d:List GSpan) (b limit:Int) (hd:d.length≤100000) (h1:limit≤1000000000000) (h2:0≤limit):kC d b limit = some (DK limit (bi d ⟨0,b⟩)):=by
  rw [Dq,fU d _ (by omega),Option.bind_some]
  unfold DK
  by_cases h:limit = 0
  · rw [if_pos h,cY.2 h]; rfl
  · rw [if_neg h,fI.2 h,cond_false,F9 _ _ (by have:=gB d ⟨0,b⟩; omega) h1 (by omega)]
    rfl
theorem Ut (i:Nat) (h:i < 99):ab (((i:Nat):Int)+1+1) = ((i+1:Nat):Int)+1:=by rw [ai (by omega) (by omega)]; omega
theorem Rp (l:List GFact) (hl:l.length≤900) (s limit b:Int) (h1:limit≤1000000000000) (h2:0≤limit) (i:Nat) (hi:i < 99) (out:List GSpan) (ho:out.length≤i*902) :
    cg l s b limit ((i:Int)+1) (l.filter bC) out = cg l s b limit (((i+1:Nat):Int)+1) (l.filter bC) (out++yc l s ⟨0,b⟩ limit ((i:Int)+1)):=by
  have hc:=O5 l
  have hk:=Nn (l.filter bC) s ((i:Int)+1)
  have hpl:=Bz l hl s ⟨0,b⟩ limit ((i:Int)+1)
  rw [nf,ay (p:=((i:Nat):Int)+1≤99) (by omega),cond_true,Ux _ _ _ _ _ _ _ (by omega),lX,bg,cond_false]
  unfold yc at hpl ⊢
  by_cases h:0 < (qp (l.filter bC) s ((i:Int)+1)).length
  · rw [if_pos h] at hpl ⊢
    rw [ay (show (0:Int) < ((qp (l.filter bC) s ((i:Int)+1)).length:Int) by omega),cond_true,gI l (by omega),Option.bind_some,fU _ _ (by omega),Option.bind_some]
    have c1:=gB (qp (l.filter bC) s ((i:Int)+1)) (ig l)
    rw [wh _ b limit (by omega) h1 h2,Option.bind_some,aP (by omega),aP (by omega),Ut i hi]
  · rw [if_neg h,aB (show ¬ (0:Int) < ((qp (l.filter bC) s ((i:Int)+1)).length:Int) by omega),cond_false,Ut i hi,List.append_nil]
noncomputable def Gp (l:List GFact) (kind s:Int) (past:GSpan) (limit:Int):List GSpan :=
  if kind = 10 then bE (QE l s past limit) else DK limit (bi (bi (tK l kind s) (ig l)) past)
theorem I6 (l:List GFact) (kind s:Int) (past:GSpan) (limit:Int):(Gp l kind s past limit).length≤73050:=by
  unfold Gp
  split
  · exact o4 (dn _).1
  · exact Nat.le_trans (Nx _ _) (gB _ _)
theorem Lv (l:List GFact) (hl:l.length≤900) (kind s limit b:Int) (h1:limit≤1000000000000) (h2:0≤limit):qA l kind s b limit = some (Gp l kind s ⟨0,b⟩ limit):=by
  rw [CB]
  unfold Gp
  by_cases hk:kind = 10
  · subst hk
    have hkk:=RZ l hl s ⟨0,b⟩ limit
    rw [if_pos rfl,mo.2 rfl,cond_false,eD l (by omega),Option.bind_some]
    refine (ya (List.range 99) (fun i out=>cg l s b limit (i+1) (l.filter bC) out) (fun (i:Nat)=>yc l s ⟨0,b⟩ limit ((i:Int)+1)) 902 (fun x _=>Bz _ hl _ _ _ _) fun i out hi ho=>?_).trans ?_
    · rw [List.length_range] at hi
      rw [List.getElem_range]
      exact Rp l hl s limit b h1 h2 i hi out ho
    · show cg l s b limit (((List.range 99).length:Int)+1) (l.filter bC) (QE l s ⟨0,b⟩ limit) = _
      rw [List.length_range,nf,aB (by omega),cond_false,fw _ (by omega)]
      rfl
  · have hs:=gB (tK l kind s) (ig l)
    rw [if_neg hk,mB.2 hk,cond_true,Fp l kind s (by omega),Option.bind_some,wh _ b limit (by omega) h1 h2]
    rfl
def FA (s r:Int) (d:List GSpan):List GPeriod:=d.map fun x=>GPeriod.mk s r x
theorem Gi (s r:Int) (d:List GSpan):(FA s r d).length = d.length:=List.length_map _
theorem LG {T A:Type} (g:T→A):∀ l:List T,l.flatMap (fun x=>[g x]) = l.map g
  | []=>rfl
  | x :: r=>by rw [List.flatMap_cons,LG g r]; rfl
def kr:List (Int × Int):=[(6,2),(9,3),(7,4),(8,5),(10,6),(5,7)]
noncomputable def G8 (l:List GFact) (x:GScheme) (past:GSpan) (p:Int × Int):List GPeriod :=
  if (nK p.1 x.Version.Credits).2 = true then FA x.State p.2 (Gp l p.1 x.State past (nK p.1 x.Version.Credits).1) else []
theorem Nh (l:List GFact) (x:GScheme) (past:GSpan) (p:Int × Int):(G8 l x past p).length≤73050:=by
  unfold G8
  split
  · rw [Gi]; exact I6 _ _ _ _ _
  · simp
noncomputable def Gc (law:List GSegment) (x:GScheme) (past:GSpan):List GPeriod:=FA x.State 1 (bi (bE (oX law x.State 3)) past)
theorem Fv (law:List GSegment) (x:GScheme) (past:GSpan):(Gc law x past).length≤73050:=by
  unfold Gc
  rw [Gi]
  exact gB _ _
noncomputable def Ew (l:List GFact) (law:List GSegment) (past:GSpan) (x:GScheme):List GPeriod:=Gc law x past++kr.flatMap (G8 l x past)
theorem MW (l:List GFact) (law:List GSegment) (past:GSpan) (x:GScheme):(Ew l law past x).length≤600000:=by
  have h1:=Fv law x past
  have h2:=rT (G8 l x past) 73050 kr fun p _=>Nh _ _ _ _
  have:kr.length = 6:=rfl
  unfold Ew
  rw [List.length_append]
  omega
def Ch (x:GScheme):Prop:=x.Version.Credits.length≤1000∧∀ c∈x.Version.Credits,0≤c.Limit∧c.Limit≤1000000
theorem Ml (k:Int):∀ l:List GCredit,(∀ c∈l,0≤c.Limit∧c.Limit≤1000000)→0≤(nK k l).1∧(nK k l).1≤1000000
  | [],_=>by simp [nK]
  | c :: r,h=>by
    rw [nK]
    split
    · exact h c (List.mem_cons_self)
    · exact Ml k r fun d hd=>h d (List.mem_cons_of_mem _ hd)
noncomputable def B5 (l:List GFact) (law:List GSegment) (schemes:List GScheme) (past:GSpan):List GPeriod:=schemes.flatMap (Ew l law past)
theorem Ox (l:List GFact) (law:List GSegment) (schemes:List GScheme) (h:schemes.length≤1000) (past:GSpan):(B5 l law schemes past).length≤600000000:=by
  have:=rT (Ew l law past) 600000 schemes fun x _=>MW _ _ _ _
  have h2:schemes.length*600000≤1000*600000:=Nat.mul_le_mul_right _ h
  unfold B5
  omega
theorem Df (l:List GFact) (law:List GSegment) (schemes:List GScheme) (b i s r:Int) (out:List GPeriod) (hr:r≤100) (hr0:0≤r) (d:List GSpan) (h1:d.length≤1000000) (h2:out.length≤1000000000) :
    bu l law schemes b i s r 0 out d = bR l law schemes b i s (r+1) (out++FA s r d):=by
  have:=ya d (fun k o=>bu l law schemes b i s r k (out++o) d) (fun x=>[GPeriod.mk s r x]) 1 (fun _ _=>by simp) fun k o hk ho=>by
    show bu _ _ _ _ _ _ _ _ _ _ = bu _ _ _ _ _ _ _ _ _ _
    rw [lU]
    simp only [aT hk,br,cond_true,aC,Bool.or_true,be hk,bf hk (by omega)]
    rw [jx (by rw [List.length_append]; omega) (by rw [List.length_append]; omega),List.append_assoc]
  simp only [List.append_nil] at this
  rw [this,LG,lU,bg,cond_false,ai (by omega) (by omega)]
  rfl
noncomputable def zM (l:List GFact) (law:List GSegment) (past:GSpan) (x:GScheme) (p:Int × Int):List GPeriod:=if p.2 = 1 then Gc law x past else G8 l x past p
theorem Sk (l:List GFact) (law:List GSegment) (past:GSpan) (x:GScheme) (p:Int × Int):(zM l law past x p).length≤73050:=by
  unfold zM
  split
  · exact Fv _ _ _
  · exact Nh _ _ _ _
def zV:List (Int × Int):=(0,1) :: kr
theorem U8 (l:List GFact) (law:List GSegment) (past:GSpan) (x:GScheme):zV.flatMap (zM l law past x) = Ew l law past x:=rfl
theorem Qd:di 2 = some 6∧di 3 = some 9∧di 4 = some 7∧di 5 = some 8∧di 6 = some 10∧di 7 = some 5:=by
  have st:∀ (r k v:Int) (j:Int),k≤14→dz k = some v→(v = r→j = k)→(v≠r→gX r (ab (k+1)) = some j)→gX r k = some j:=by
    intro r k v j h1 h2 h3 h4
    rw [Ai,ay h1,cond_true,h2,Option.bind_some]
    by_cases e:v = r
    · rw [cY.2 e,h3 e]; rfl
    · rw [fI.2 e]; exact h4 e
  have rk:dz 1 = some 0∧dz 2 = some 0∧dz 3 = some 0∧dz 4 = some 0∧dz 5 = some 7∧dz 6 = some 2∧dz 7 = some 4∧dz 8 = some 5∧dz 9 = some 3∧dz 10 = some 6:=by
    refine ⟨?_, ?_, ?_, ?_, ?_, ?_, ?_, ?_, ?_, ?_⟩ <;> (rw [KR]; rfl)
  obtain ⟨k1,k2,k3,k4,k5,k6,k7,k8,k9,k10⟩:=rk
  have w:∀ n:Int,n≤20→0≤n→ab (n+1) = n+1:=fun n h h'=>ai (by omega) (by omega)
  refine ⟨?_, ?_, ?_, ?_, ?_, ?_⟩ <;> rw [F0]
  · refine st 2 1 0 6 (by decide) k1 (by decide) fun _=>?_
    rw [w _ (by decide) (by decide)]
    refine st 2 2 0 6 (by decide) k2 (by decide) fun _=>?_
    rw [w _ (by decide) (by decide)]
    refine st 2 3 0 6 (by decide) k3 (by decide) fun _=>?_
    rw [w _ (by decide) (by decide)]
    refine st 2 4 0 6 (by decide) k4 (by decide) fun _=>?_
    rw [w _ (by decide) (by decide)]
    refine st 2 5 7 6 (by decide) k5 (by decide) fun _=>?_
    rw [w _ (by decide) (by decide)]
    exact st 2 6 2 6 (by decide) k6 (by decide) fun h=>absurd rfl h
  · refine st 3 1 0 9 (by decide) k1 (by decide) fun _=>?_
    rw [w _ (by decide) (by decide)]
    refine st 3 2 0 9 (by decide) k2 (by decide) fun _=>?_
    rw [w _ (by decide) (by decide)]
    refine st 3 3 0 9 (by decide) k3 (by decide) fun _=>?_
    rw [w _ (by decide) (by decide)]
    refine st 3 4 0 9 (by decide) k4 (by decide) fun _=>?_
    rw [w _ (by decide) (by decide)]
    refine st 3 5 7 9 (by decide) k5 (by decide) fun _=>?_
    rw [w _ (by decide) (by decide)]
    refine st 3 6 2 9 (by decide) k6 (by decide) fun _=>?_
    rw [w _ (by decide) (by decide)]
    refine st 3 7 4 9 (by decide) k7 (by decide) fun _=>?_
    rw [w _ (by decide) (by decide)]
    refine st 3 8 5 9 (by decide) k8 (by decide) fun _=>?_
    rw [w _ (by decide) (by decide)]
    exact st 3 9 3 9 (by decide) k9 (by decide) fun h=>absurd rfl h
  · refine st 4 1 0 7 (by decide) k1 (by decide) fun _=>?_
    rw [w _ (by decide) (by decide)]
    refine st 4 2 0 7 (by decide) k2 (by decide) fun _=>?_
    rw [w _ (by decide) (by decide)]
    refine st 4 3 0 7 (by decide) k3 (by decide) fun _=>?_
    rw [w _ (by decide) (by decide)]
    refine st 4 4 0 7 (by decide) k4 (by decide) fun _=>?_
    rw [w _ (by decide) (by decide)]
    refine st 4 5 7 7 (by decide) k5 (by decide) fun _=>?_
    rw [w _ (by decide) (by decide)]
    refine st 4 6 2 7 (by decide) k6 (by decide) fun _=>?_
    rw [w _ (by decide) (by decide)]
    exact st 4 7 4 7 (by decide) k7 (by decide) fun h=>absurd rfl h
  · refine st 5 1 0 8 (by decide) k1 (by decide) fun _=>?_
    rw [w _ (by decide) (by decide)]
    refine st 5 2 0 8 (by decide) k2 (by decide) fun _=>?_
    rw [w _ (by decide) (by decide)]
    refine st 5 3 0 8 (by decide) k3 (by decide) fun _=>?_
    rw [w _ (by decide) (by decide)]
    refine st 5 4 0 8 (by decide) k4 (by decide) fun _=>?_
    rw [w _ (by decide) (by decide)]
    refine st 5 5 7 8 (by decide) k5 (by decide) fun _=>?_
    rw [w _ (by decide) (by decide)]
    refine st 5 6 2 8 (by decide) k6 (by decide) fun _=>?_
    rw [w _ (by decide) (by decide)]
    refine st 5 7 4 8 (by decide) k7 (by decide) fun _=>?_
    rw [w _ (by decide) (by decide)]
    exact st 5 8 5 8 (by decide) k8 (by decide) fun h=>absurd rfl h
  · refine st 6 1 0 10 (by decide) k1 (by decide) fun _=>?_
    rw [w _ (by decide) (by decide)]
    refine st 6 2 0 10 (by decide) k2 (by decide) fun _=>?_
    rw [w _ (by decide) (by decide)]
    refine st 6 3 0 10 (by decide) k3 (by decide) fun _=>?_
    rw [w _ (by decide) (by decide)]
    refine st 6 4 0 10 (by decide) k4 (by decide) fun _=>?_
    rw [w _ (by decide) (by decide)]
    refine st 6 5 7 10 (by decide) k5 (by decide) fun _=>?_
    rw [w _ (by decide) (by decide)]
    refine st 6 6 2 10 (by decide) k6 (by decide) fun _=>?_
    rw [w _ (by decide) (by decide)]
    refine st 6 7 4 10 (by decide) k7 (by decide) fun _=>?_
    rw [w _ (by decide) (by decide)]
    refine st 6 8 5 10 (by decide) k8 (by decide) fun _=>?_
    rw [w _ (by decide) (by decide)]
    refine st 6 9 3 10 (by decide) k9 (by decide) fun _=>?_
    rw [w _ (by decide) (by decide)]
    exact st 6 10 6 10 (by decide) k10 (by decide) fun h=>absurd rfl h
  · refine st 7 1 0 5 (by decide) k1 (by decide) fun _=>?_
    rw [w _ (by decide) (by decide)]
    refine st 7 2 0 5 (by decide) k2 (by decide) fun _=>?_
    rw [w _ (by decide) (by decide)]
    refine st 7 3 0 5 (by decide) k3 (by decide) fun _=>?_
    rw [w _ (by decide) (by decide)]
    refine st 7 4 0 5 (by decide) k4 (by decide) fun _=>?_
    rw [w _ (by decide) (by decide)]
    exact st 7 5 7 5 (by decide) k5 (by decide) fun h=>absurd rfl h
theorem RD (l:List GFact) (hl:l.length≤900) (law:List GSegment) (hw:law.length≤99000) (schemes:List GScheme) (b:Int) (i:Nat) (hi:i < schemes.length) (hx:Ch schemes[i]) (out:List GPeriod) (ho:out.length≤900000000) (p:Int × Int)
    (hp:p.2 = 1∨p.2≠1∧di p.2 = some p.1) (h1:0≤p.2) (h7:p.2≤7) :
    bR l law schemes b (i:Int) schemes[i].State p.2 out = bR l law schemes b (i:Int) schemes[i].State (p.2+1) (out++zM l law ⟨0,b⟩ schemes[i] p):=by
  rw [nc,ay h7,cond_true]
  unfold zM
  rcases hp with hp | ⟨hp,hk⟩
  · have hu:=E5 law schemes[i].State 3
    have hm:=(dn (oX law schemes[i].State 3)).2.2
    have hc:=gB (bE (oX law schemes[i].State 3)) ⟨0,b⟩
    rw [if_pos hp,cY.2 hp,cond_true,Gl law _ _ (by omega),Option.bind_some,wh _ b 0 (by omega) (by omega) (by omega),Option.bind_some]
    have e:DK 0 (bi (bE (oX law schemes[i].State 3)) ⟨0,b⟩) = bi (bE (oX law schemes[i].State 3)) ⟨0,b⟩:=if_pos rfl
    rw [e,Df _ _ _ _ _ _ _ _ (by omega) h1 _ (by omega) (by omega),hp]
    rfl
  · obtain ⟨c1,c2⟩:=Ml p.1 _ hx.2
    rw [if_neg hp,fI.2 hp,cond_false,br,aT hi,aC,aC,be hi,hk,Option.bind_some,E8 _ _ (by have:=hx.1; omega),Option.bind_some]
    unfold G8
    cases hc:(nK p.1 schemes[i].Version.Credits).2 with
    | false =>
      rw [cond_false,Df _ _ _ _ _ _ _ _ (by omega) h1 _ (by simp) (by omega),if_neg (by simp)]
      rfl
    | true =>
      have hd:=I6 l p.1 schemes[i].State ⟨0,b⟩ (nK p.1 schemes[i].Version.Credits).1
      rw [cond_true,Option.bind_some,Lv l hl _ _ _ _ (by omega) c1,Option.bind_some,Df _ _ _ _ _ _ _ _ (by omega) h1 _ (by omega) (by omega),if_pos rfl]
theorem T6:∀ (j:Nat) (h:j < zV.length),(zV[j]).2 = (j:Int)+1∧((zV[j]).2 = 1∨(zV[j]).2≠1∧di (zV[j]).2 = some (zV[j]).1):=by
  intro j h
  have h7:zV.length = 7:=rfl
  obtain ⟨k2,k3,k4,k5,k6,k7⟩:=Qd
  have:j = 0∨j = 1∨j = 2∨j = 3∨j = 4∨j = 5∨j = 6:=by omega
  rcases this with e | e | e | e | e | e | e <;> subst e
  · exact ⟨rfl, .inl rfl⟩
  · exact ⟨rfl, .inr ⟨show (2:Int)≠1 by decide,k2⟩⟩
  · exact ⟨rfl, .inr ⟨show (3:Int)≠1 by decide,k3⟩⟩
  · exact ⟨rfl, .inr ⟨show (4:Int)≠1 by decide,k4⟩⟩
  · exact ⟨rfl, .inr ⟨show (5:Int)≠1 by decide,k5⟩⟩
  · exact ⟨rfl, .inr ⟨show (6:Int)≠1 by decide,k6⟩⟩
  · exact ⟨rfl, .inr ⟨show (7:Int)≠1 by decide,k7⟩⟩
theorem SL (l:List GFact) (hl:l.length≤900) (law:List GSegment) (hw:law.length≤99000) (schemes:List GScheme) (hn:schemes.length≤1000) (b:Int) (i:Nat) (hi:i < schemes.length) (hx:Ch schemes[i]) (out:List GPeriod) (ho:out.length≤600000000) :
    cP l law schemes b (i:Int) out = cP l law schemes b ((i+1:Nat):Int) (out++Ew l law ⟨0,b⟩ schemes[i]):=by
  have h7:zV.length = 7:=rfl
  have:=ya zV (fun j o=>bR l law schemes b (i:Int) schemes[i].State (j+1) (out++o)) (zM l law ⟨0,b⟩ schemes[i]) 73050 (fun _ _=>Sk _ _ _ _ _) fun j o hj hoo=>by
    obtain ⟨e1,e2⟩:=T6 j hj
    show bR l law schemes b (i:Int) schemes[i].State ((j:Int)+1) (out++o) = bR l law schemes b (i:Int) schemes[i].State (((j+1:Nat):Int)+1) (out++(o++zM l law ⟨0,b⟩ schemes[i] zV[j]))
    rw [← e1,RD l hl law hw schemes b i hi hx (out++o) (by rw [List.length_append]; omega) (zV[j]) e2 (by omega) (by omega),List.append_assoc,e1]
    rfl
  rw [U8] at this
  simp only [List.append_nil] at this
  rw [pu]
  simp only [aT hi,br,cond_true,aC,Bool.or_true,be hi,bf hi (by omega)]
  refine Eq.trans this ?_
  rw [h7,nc,aB (by omega),cond_false,bf hi (by omega)]
theorem R8 (l:List GFact) (hl:l.length≤900) (law:List GSegment) (hw:law.length≤99000) (schemes:List GScheme) (hn:schemes.length≤1000) (hx:∀ x∈schemes,Ch x) (b:Int) :
    cP l law schemes b 0 [] = some (B5 l law schemes ⟨0,b⟩,0):=by
  refine (ya schemes (fun i out=>cP l law schemes b i out) (Ew l law ⟨0,b⟩) 600000 (fun x _=>MW _ _ _ _) fun i o hi ho=>SL l hl law hw schemes hn b i hi (hx _ (List.getElem_mem hi)) o (by
      have:i*600000≤1000*600000:=Nat.mul_le_mul_right _ (by omega)
      omega)).trans ?_
  show cP _ _ _ _ _ (B5 l law schemes ⟨0,b⟩) = _
  rw [pu,bg]; rfl
def MR (schemes:List GScheme) (i:Nat):Bool:=(decide ((gD schemes i (zS .GScheme)).State < 0)||decide (6≤(gD schemes i (zS .GScheme)).State))||(decide (0 < i)&&decide ((gD schemes i (zS .GScheme)).State≤(gD schemes (i - 1) (zS .GScheme)).State))
theorem QR (schemes:List GScheme) (hn:schemes.length≤1000) (i:Nat) (hi:i < schemes.length) (y n:Option (List GPeriod × Int)) :
    (bif aa ((i:Int) < (schemes.length:Int)) then gb (aa (0≤(i:Int)))<|gb (aa ((i:Int) < (schemes.length:Int)))<|gb ((!(aa (0 < (i:Int))&&((!(bif aa ((gD schemes ((i:Int)).toNat (zS .GScheme)).State < 0) then true else aa (6≤(gD schemes ((i:Int)).toNat (zS .GScheme)).State)))&&true)))||aa (0≤(ab ((i:Int) - 1)))) <|
      gb ((!(aa (0 < (i:Int))&&((!(bif aa ((gD schemes ((i:Int)).toNat (zS .GScheme)).State < 0) then true else aa (6≤(gD schemes ((i:Int)).toNat (zS .GScheme)).State)))&&true)))||aa ((ab ((i:Int) - 1)) < (schemes.length:Int))) <|
      bif (bif (bif aa ((gD schemes ((i:Int)).toNat (zS .GScheme)).State < 0) then true else aa (6≤(gD schemes ((i:Int)).toNat (zS .GScheme)).State)) then true else (bif aa (0 < (i:Int)) then aa ((gD schemes ((i:Int)).toNat (zS .GScheme)).State≤(gD schemes (ab ((i:Int) - 1)).toNat (zS .GScheme)).State) else false)) then y else n else none) =
    if MR schemes i = true then y else n:=by
  rw [aT hi,cond_true,br,aC,aC]
  have hw:0 < i→ab ((i:Int) - 1) = ((i - 1:Nat):Int):=fun h=>by rw [ai (by omega) (by omega)]; omega
  by_cases h0:0 < i
  · rw [hw h0,br,ay (show ((i - 1:Nat):Int) < (schemes.length:Int) by omega),Bool.or_true,aC,aC,Int.toNat_natCast,Int.toNat_natCast,ay (show (0:Int) < (i:Int) by omega),cond_true,dR,dR]
    unfold MR
    rw [decide_eq_true h0,Bool.true_and]
    cases ((decide ((gD schemes i (zS .GScheme)).State < 0)||decide (6≤(gD schemes i (zS .GScheme)).State))||decide ((gD schemes i (zS .GScheme)).State≤(gD schemes (i - 1) (zS .GScheme)).State)) <;> rfl
  · rw [aB (show ¬ (0:Int) < (i:Int) by omega),Bool.false_and,Bool.not_false,Bool.true_or,Bool.true_or,aC,aC,Int.toNat_natCast,cond_false,dR,dR]
    unfold MR
    rw [decide_eq_false h0,Bool.false_and]
    cases ((decide ((gD schemes i (zS .GScheme)).State < 0)||decide (6≤(gD schemes i (zS .GScheme)).State))||false) <;> rfl
end Go.Ax
