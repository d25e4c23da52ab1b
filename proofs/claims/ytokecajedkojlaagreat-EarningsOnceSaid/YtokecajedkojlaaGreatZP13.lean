import Derived.Test.YtokecajedkojlaaGreatZP12
set_option linter.all false
/- What the states claim, by the program and by the document. -/
set_option maxRecDepth 100000
namespace Go.Ax
def QM (s ref:Int) (f:GFact):Bool:=(af f.Kind 10&&af f.State s)&&af f.Ref ref
def qx (c:List GFact) (s ref:Int):List GSpan:=(c.filter (QM s ref)).map GFact.Span
theorem MK (c:List GFact) (s r:Int):(qx c s r).length≤c.length:=by
  unfold qx
  rw [List.length_map]
  exact List.length_filter_le _ _
theorem gI (l:List GSpan) (s:GSpan):(aU l s).length≤73050:=pm (bL l s).1
noncomputable def El (limit:Int) (d:List GSpan):List GSpan:=if limit = 0 then d else o7 limit (bE d)
theorem L4 (limit:Int) (d:List GSpan):(El limit d).length≤d.length:=by
  unfold El
  split
  · exact Nat.le_refl _
  · exact Nat.le_trans (JX _ _) (cV d).2.2
noncomputable def yH (l:List GFact) (s:Int) (past:GSpan) (limit ref:Int):List GSpan :=
  if 0 < (qx (l.filter bp) s ref).length then El limit (aU (aU (qx (l.filter bp) s ref) (im l)) past) else []
theorem Ab (l:List GSpan) (s:GSpan):(aU l s).length≤l.length+1:=by
  have h1:=(cV l).2.2
  have h2:(bE [s]).length≤1:=(cV [s]).2.2
  have key:∀ (a b:List GSpan),(eH a b).length≤a.length+b.length:=by
    intro a b
    induction a,b using eH.induct with
    | case1 b=>rw [pB]; simp
    | case2 s r=>rw [nD]; simp
    | case3 s r t u ih1 ih2 =>
      have:=H7 s t
      rw [nr,List.length_append]
      split
      · simp only [List.length_cons] at ih1 ⊢; omega
      · simp only [List.length_cons] at ih2 ⊢; omega
  have:=key (bE l) (bE [s])
  unfold aU
  omega
theorem P3 (l:List GFact):(l.filter bp).length≤l.length:=List.length_filter_le _ _
theorem B5 (l:List GFact) (hl:l.length≤900) (s:Int) (past:GSpan) (limit ref:Int):(yH l s past limit ref).length≤902:=by
  have h1:=MK (l.filter bp) s ref
  have h2:=P3 l
  have h3:=Ab (qx (l.filter bp) s ref) (im l)
  have h4:=Ab (aU (qx (l.filter bp) s ref) (im l)) past
  unfold yH
  split
  · have:=L4 limit (aU (aU (qx (l.filter bp) s ref) (im l)) past); omega
  · simp
noncomputable def QC (l:List GFact) (s:Int) (past:GSpan) (limit:Int):List GSpan:=(List.range 99).flatMap fun (i:Nat)=>yH l s past limit ((i:Int)+1)
theorem rW {T A:Type} (g:T→List A) (B:Nat):∀ l:List T,(∀ x∈l,(g x).length≤B)→(l.flatMap g).length≤l.length*B
  | [],_=>by simp
  | x :: r,h=>by
    have h1:=h x (List.mem_cons_self)
    have h2:=rW g B r fun y hy=>h y (List.mem_cons_of_mem _ hy)
    rw [List.flatMap_cons,List.length_append,List.length_cons,Nat.succ_mul]
    omega
theorem S3 (l:List GFact) (hl:l.length≤900) (s:Int) (past:GSpan) (limit:Int):(QC l s past limit).length≤99*902:=by
  have:=rW (fun (i:Nat)=>yH l s past limit ((i:Int)+1)) 902 (List.range 99) fun x _=>B5 _ hl _ _ _ _
  rw [List.length_range] at this
  exact this
theorem Vm (l:List GFact) (s b limit ch:Int) (out:List GSpan) (c:List GFact) (hc:c.length≤1000000):bz l s b limit ch 0 c out [] = bz l s b limit ch (c.length:Int) c out (qx c s ch):=by
  unfold qx
  refine xC c (fun i d=>bz l s b limit ch i c out d) (QM s ch) GFact.Span fun i d hi hd=>?_
  show bz _ _ _ _ _ _ _ _ _ = bz _ _ _ _ _ _ _ _ _
  rw [lY]
  simp only [aP hi,bj,cond_true,ay,Bool.or_true,bd hi,aW hi (by omega)]
  rw [jO (by omega) (by omega),bB,bB]
  show (bif QM s ch c[i] then _ else _) = _
  cases QM s ch c[i] <;> rfl
theorem xc (d:List GSpan) (b limit:Int) (hd:d.length≤100000) (h1:limit≤1000000000000) (h2:0≤limit):kP d b limit = some (El limit (aU d ⟨0,b⟩)):=by
  rw [Ew,gc d _ (by omega),Option.bind_some]
  unfold El
  by_cases h:limit = 0
  · rw [if_pos h,cA.2 h]; rfl
  · rw [if_neg h,fx.2 h,cond_false,Gc _ _ (by have:=gI d ⟨0,b⟩; omega) h1 (by omega)]
    rfl
theorem U7 (i:Nat) (h:i < 99):ab (((i:Nat):Int)+1+1) = ((i+1:Nat):Int)+1:=by rw [ah (by omega) (by omega)]; omega
theorem Sx (l:List GFact) (hl:l.length≤900) (s limit b:Int) (h1:limit≤1000000000000) (h2:0≤limit) (i:Nat) (hi:i < 99) (out:List GSpan) (ho:out.length≤i*902) :
    ca l s b limit ((i:Int)+1) (l.filter bp) out = ca l s b limit (((i+1:Nat):Int)+1) (l.filter bp) (out++yH l s ⟨0,b⟩ limit ((i:Int)+1)):=by
  have hc:=P3 l
  have hk:=MK (l.filter bp) s ((i:Int)+1)
  have hpl:=B5 l hl s ⟨0,b⟩ limit ((i:Int)+1)
  rw [nz,aB (p:=((i:Nat):Int)+1≤99) (by omega),cond_true,Vm _ _ _ _ _ _ _ (by omega),lY,aX,cond_false]
  unfold yH at hpl ⊢
  by_cases h:0 < (qx (l.filter bp) s ((i:Int)+1)).length
  · rw [if_pos h] at hpl ⊢
    rw [aB (show (0:Int) < ((qx (l.filter bp) s ((i:Int)+1)).length:Int) by omega),cond_true,gN l (by omega),Option.bind_some,gc _ _ (by omega),Option.bind_some]
    have c1:=gI (qx (l.filter bp) s ((i:Int)+1)) (im l)
    rw [xc _ b limit (by omega) h1 h2,Option.bind_some,aT (by omega),aT (by omega),U7 i hi]
  · rw [if_neg h,aE (show ¬ (0:Int) < ((qx (l.filter bp) s ((i:Int)+1)).length:Int) by omega),cond_false,U7 i hi,List.append_nil]
noncomputable def Fr (l:List GFact) (kind s:Int) (past:GSpan) (limit:Int):List GSpan :=
  if kind = 10 then bE (QC l s past limit) else El limit (aU (aU (ue l kind s) (im l)) past)
theorem J6 (l:List GFact) (kind s:Int) (past:GSpan) (limit:Int):(Fr l kind s past limit).length≤73050:=by
  unfold Fr
  split
  · exact pm (cV _).1
  · exact Nat.le_trans (L4 _ _) (gI _ _)
theorem OC (l:List GFact) (hl:l.length≤900) (kind s limit b:Int) (h1:limit≤1000000000000) (h2:0≤limit):qL l kind s b limit = some (Fr l kind s ⟨0,b⟩ limit):=by
  rw [CZ]
  unfold Fr
  by_cases hk:kind = 10
  · subst hk
    have hkk:=S3 l hl s ⟨0,b⟩ limit
    rw [if_pos rfl,lE.2 rfl,cond_false,eP l (by omega),Option.bind_some]
    refine (zP (List.range 99) (fun i out=>ca l s b limit (i+1) (l.filter bp) out) (fun (i:Nat)=>yH l s ⟨0,b⟩ limit ((i:Int)+1)) 902 (fun x _=>B5 _ hl _ _ _ _) fun i out hi ho=>?_).trans ?_
    · rw [List.length_range] at hi
      rw [List.getElem_range]
      exact Sx l hl s limit b h1 h2 i hi out ho
    · show ca l s b limit (((List.range 99).length:Int)+1) (l.filter bp) (QC l s ⟨0,b⟩ limit) = _
      rw [List.length_range,nz,aE (by omega),cond_false,fI _ (by omega)]
      rfl
  · have hs:=gI (ue l kind s) (im l)
    rw [if_neg hk,mE.2 hk,cond_true,Fx l kind s (by omega),Option.bind_some,xc _ b limit (by omega) h1 h2]
    rfl
def FD (s r:Int) (d:List GSpan):List GPeriod:=d.map fun x=>GPeriod.mk s r x
theorem GF (s r:Int) (d:List GSpan):(FD s r d).length = d.length:=List.length_map _
theorem MB {T A:Type} (g:T→A):∀ l:List T,l.flatMap (fun x=>[g x]) = l.map g
  | []=>rfl
  | x :: r=>by rw [List.flatMap_cons,MB g r]; rfl
def kr:List (Int × Int):=[(6,2),(9,3),(7,4),(8,5),(10,6),(5,7)]
noncomputable def Jd (l:List GFact) (x:GScheme) (past:GSpan) (p:Int × Int):List GPeriod :=
  if (nX p.1 x.Version.Credits).2 = true then FD x.State p.2 (Fr l p.1 x.State past (nX p.1 x.Version.Credits).1) else []
theorem Nm (l:List GFact) (x:GScheme) (past:GSpan) (p:Int × Int):(Jd l x past p).length≤73050:=by
  unfold Jd
  split
  · rw [GF]; exact J6 _ _ _ _ _
  · simp
noncomputable def Gj (law:List GSegment) (x:GScheme) (past:GSpan):List GPeriod:=FD x.State 1 (aU (bE (oP law x.State 3)) past)
theorem Gs (law:List GSegment) (x:GScheme) (past:GSpan):(Gj law x past).length≤73050:=by
  unfold Gj
  rw [GF]
  exact gI _ _
noncomputable def DD (l:List GFact) (law:List GSegment) (past:GSpan) (x:GScheme):List GPeriod:=Gj law x past++kr.flatMap (Jd l x past)
theorem L5 (l:List GFact) (law:List GSegment) (past:GSpan) (x:GScheme):(DD l law past x).length≤600000:=by
  have h1:=Gs law x past
  have h2:=rW (Jd l x past) 73050 kr fun p _=>Nm _ _ _ _
  have:kr.length = 6:=rfl
  unfold DD
  rw [List.length_append]
  omega
def Cu (x:GScheme):Prop:=x.Version.Credits.length≤1000∧∀ c∈x.Version.Credits,0≤c.Limit∧c.Limit≤1000000
theorem NC (k:Int):∀ l:List GCredit,(∀ c∈l,0≤c.Limit∧c.Limit≤1000000)→0≤(nX k l).1∧(nX k l).1≤1000000
  | [],_=>by simp [nX]
  | c :: r,h=>by
    rw [nX]
    split
    · exact h c (List.mem_cons_self)
    · exact NC k r fun d hd=>h d (List.mem_cons_of_mem _ hd)
noncomputable def Cv (l:List GFact) (law:List GSegment) (schemes:List GScheme) (past:GSpan):List GPeriod:=schemes.flatMap (DD l law past)
theorem O3 (l:List GFact) (law:List GSegment) (schemes:List GScheme) (h:schemes.length≤1000) (past:GSpan):(Cv l law schemes past).length≤600000000:=by
  have:=rW (DD l law past) 600000 schemes fun x _=>L5 _ _ _ _
  have h2:schemes.length*600000≤1000*600000:=Nat.mul_le_mul_right _ h
  unfold Cv
  omega
theorem EP (l:List GFact) (law:List GSegment) (schemes:List GScheme) (b i s r:Int) (out:List GPeriod) (hr:r≤100) (hr0:0≤r) (d:List GSpan) (h1:d.length≤1000000) (h2:out.length≤1000000000) :
    bw l law schemes b i s r 0 out d = bO l law schemes b i s (r+1) (out++FD s r d):=by
  have:=zP d (fun k o=>bw l law schemes b i s r k (out++o) d) (fun x=>[GPeriod.mk s r x]) 1 (fun _ _=>by simp) fun k o hk ho=>by
    show bw _ _ _ _ _ _ _ _ _ _ = bw _ _ _ _ _ _ _ _ _ _
    rw [mn]
    simp only [aP hk,bj,cond_true,ay,Bool.or_true,bd hk,aW hk (by omega)]
    rw [jO (by rw [List.length_append]; omega) (by rw [List.length_append]; omega),List.append_assoc]
  simp only [List.append_nil] at this
  rw [this,MB,mn,aX,cond_false,ah (by omega) (by omega)]
  rfl
noncomputable def zr (l:List GFact) (law:List GSegment) (past:GSpan) (x:GScheme) (p:Int × Int):List GPeriod:=if p.2 = 1 then Gj law x past else Jd l x past p
theorem Tl (l:List GFact) (law:List GSegment) (past:GSpan) (x:GScheme) (p:Int × Int):(zr l law past x p).length≤73050:=by
  unfold zr
  split
  · exact Gs _ _ _
  · exact Nm _ _ _ _
def Ao:List (Int × Int):=(0,1) :: kr
theorem VT (l:List GFact) (law:List GSegment) (past:GSpan) (x:GScheme):Ao.flatMap (zr l law past x) = DD l law past x:=rfl
theorem RC:dv 2 = some 6∧dv 3 = some 9∧dv 4 = some 7∧dv 5 = some 8∧dv 6 = some 10∧dv 7 = some 5:=by
  have st:∀ (r k v:Int) (j:Int),k≤14→dA k = some v→(v = r→j = k)→(v≠r→gW r (ab (k+1)) = some j)→gW r k = some j:=by
    intro r k v j h1 h2 h3 h4
    rw [AC,aB h1,cond_true,h2,Option.bind_some]
    by_cases e:v = r
    · rw [cA.2 e,h3 e]; rfl
    · rw [fx.2 e]; exact h4 e
  have rk:dA 1 = some 0∧dA 2 = some 0∧dA 3 = some 0∧dA 4 = some 0∧dA 5 = some 7∧dA 6 = some 2∧dA 7 = some 4∧dA 8 = some 5∧dA 9 = some 3∧dA 10 = some 6:=by
    refine ⟨?_, ?_, ?_, ?_, ?_, ?_, ?_, ?_, ?_, ?_⟩ <;> (rw [KQ]; rfl)
  obtain ⟨k1,k2,k3,k4,k5,k6,k7,k8,k9,k10⟩:=rk
  have w:∀ n:Int,n≤20→0≤n→ab (n+1) = n+1:=fun n h h'=>ah (by omega) (by omega)
  refine ⟨?_, ?_, ?_, ?_, ?_, ?_⟩ <;> rw [Gl]
  · refine st 2 1 0 6 (by decide) k1 (by decide) fun _=>?_
    rw [w _ (by decide) (by decide)]
    refine st 2 2 0 6 (by decide) k2 (by decide) fun _=>?_
    rw [w _ (by decide) (by decide)]
    refine st 2 3 0 6 (by decide) k3 (by decide) fun _=>?_
    rw [w _ (by decide) (by decide)]
    refine st 2 4 0 6 (by decide) k4 (by decide) fun _=>?_
    rw [w _ (by decide) (by decide)]
    refine st 2 5 7 6 (by decide) k5 (by decide) fun _=>?_
    rw [w _ (by decide) (by decide)]
    exact st 2 6 2 6 (by decide) k6 (by decide) fun h=>absurd rfl h
  · refine st 3 1 0 9 (by decide) k1 (by decide) fun _=>?_
    rw [w _ (by decide) (by decide)]
    refine st 3 2 0 9 (by decide) k2 (by decide) fun _=>?_
    rw [w _ (by decide) (by decide)]
    refine st 3 3 0 9 (by decide) k3 (by decide) fun _=>?_
    rw [w _ (by decide) (by decide)]
    refine st 3 4 0 9 (by decide) k4 (by decide) fun _=>?_
    rw [w _ (by decide) (by decide)]
    refine st 3 5 7 9 (by decide) k5 (by decide) fun _=>?_
    rw [w _ (by decide) (by decide)]
    refine st 3 6 2 9 (by decide) k6 (by decide) fun _=>?_
    rw [w _ (by decide) (by decide)]
    refine st 3 7 4 9 (by decide) k7 (by decide) fun _=>?_
    rw [w _ (by decide) (by decide)]
    refine st 3 8 5 9 (by decide) k8 (by decide) fun _=>?_
    rw [w _ (by decide) (by decide)]
    exact st 3 9 3 9 (by decide) k9 (by decide) fun h=>absurd rfl h
  · refine st 4 1 0 7 (by decide) k1 (by decide) fun _=>?_
    rw [w _ (by decide) (by decide)]
    refine st 4 2 0 7 (by decide) k2 (by decide) fun _=>?_
    rw [w _ (by decide) (by decide)]
    refine st 4 3 0 7 (by decide) k3 (by decide) fun _=>?_
    rw [w _ (by decide) (by decide)]
    refine st 4 4 0 7 (by decide) k4 (by decide) fun _=>?_
    rw [w _ (by decide) (by decide)]
    refine st 4 5 7 7 (by decide) k5 (by decide) fun _=>?_
    rw [w _ (by decide) (by decide)]
    refine st 4 6 2 7 (by decide) k6 (by decide) fun _=>?_
    rw [w _ (by decide) (by decide)]
    exact st 4 7 4 7 (by decide) k7 (by decide) fun h=>absurd rfl h
  · refine st 5 1 0 8 (by decide) k1 (by decide) fun _=>?_
    rw [w _ (by decide) (by decide)]
    refine st 5 2 0 8 (by decide) k2 (by decide) fun _=>?_
    rw [w _ (by decide) (by decide)]
    refine st 5 3 0 8 (by decide) k3 (by decide) fun _=>?_
    rw [w _ (by decide) (by decide)]
    refine st 5 4 0 8 (by decide) k4 (by decide) fun _=>?_
    rw [w _ (by decide) (by decide)]
    refine st 5 5 7 8 (by decide) k5 (by decide) fun _=>?_
    rw [w _ (by decide) (by decide)]
    refine st 5 6 2 8 (by decide) k6 (by decide) fun _=>?_
    rw [w _ (by decide) (by decide)]
    refine st 5 7 4 8 (by decide) k7 (by decide) fun _=>?_
    rw [w _ (by decide) (by decide)]
    exact st 5 8 5 8 (by decide) k8 (by decide) fun h=>absurd rfl h
  · refine st 6 1 0 10 (by decide) k1 (by decide) fun _=>?_
    rw [w _ (by decide) (by decide)]
    refine st 6 2 0 10 (by decide) k2 (by decide) fun _=>?_
    rw [w _ (by decide) (by decide)]
    refine st 6 3 0 10 (by decide) k3 (by decide) fun _=>?_
    rw [w _ (by decide) (by decide)]
    refine st 6 4 0 10 (by decide) k4 (by decide) fun _=>?_
    rw [w _ (by decide) (by decide)]
    refine st 6 5 7 10 (by decide) k5 (by decide) fun _=>?_
    rw [w _ (by decide) (by decide)]
    refine st 6 6 2 10 (by decide) k6 (by decide) fun _=>?_
    rw [w _ (by decide) (by decide)]
    refine st 6 7 4 10 (by decide) k7 (by decide) fun _=>?_
    rw [w _ (by decide) (by decide)]
    refine st 6 8 5 10 (by decide) k8 (by decide) fun _=>?_
    rw [w _ (by decide) (by decide)]
    refine st 6 9 3 10 (by decide) k9 (by decide) fun _=>?_
    rw [w _ (by decide) (by decide)]
    exact st 6 10 6 10 (by decide) k10 (by decide) fun h=>absurd rfl h
  · refine st 7 1 0 5 (by decide) k1 (by decide) fun _=>?_
    rw [w _ (by decide) (by decide)]
    refine st 7 2 0 5 (by decide) k2 (by decide) fun _=>?_
    rw [w _ (by decide) (by decide)]
    refine st 7 3 0 5 (by decide) k3 (by decide) fun _=>?_
    rw [w _ (by decide) (by decide)]
    refine st 7 4 0 5 (by decide) k4 (by decide) fun _=>?_
    rw [w _ (by decide) (by decide)]
    exact st 7 5 7 5 (by decide) k5 (by decide) fun h=>absurd rfl h
theorem SF (l:List GFact) (hl:l.length≤900) (law:List GSegment) (hw:law.length≤99000) (schemes:List GScheme) (b:Int) (i:Nat) (hi:i < schemes.length) (hx:Cu schemes[i]) (out:List GPeriod) (ho:out.length≤900000000) (p:Int × Int)
    (hp:p.2 = 1∨p.2≠1∧dv p.2 = some p.1) (h1:0≤p.2) (h7:p.2≤7) :
    bO l law schemes b (i:Int) schemes[i].State p.2 out = bO l law schemes b (i:Int) schemes[i].State (p.2+1) (out++zr l law ⟨0,b⟩ schemes[i] p):=by
  rw [np,aB h7,cond_true]
  unfold zr
  rcases hp with hp | ⟨hp,hk⟩
  · have hu:=GH law schemes[i].State 3
    have hm:=(cV (oP law schemes[i].State 3)).2.2
    have hc:=gI (bE (oP law schemes[i].State 3)) ⟨0,b⟩
    rw [if_pos hp,cA.2 hp,cond_true,GY law _ _ (by omega),Option.bind_some,xc _ b 0 (by omega) (by omega) (by omega),Option.bind_some]
    have e:El 0 (aU (bE (oP law schemes[i].State 3)) ⟨0,b⟩) = aU (bE (oP law schemes[i].State 3)) ⟨0,b⟩:=if_pos rfl
    rw [e,EP _ _ _ _ _ _ _ _ (by omega) h1 _ (by omega) (by omega),hp]
    rfl
  · obtain ⟨c1,c2⟩:=NC p.1 _ hx.2
    rw [if_neg hp,fx.2 hp,cond_false,bj,aP hi,ay,ay,bd hi,hk,Option.bind_some,GV _ _ (by have:=hx.1; omega),Option.bind_some]
    unfold Jd
    cases hc:(nX p.1 schemes[i].Version.Credits).2 with
    | false =>
      rw [cond_false,EP _ _ _ _ _ _ _ _ (by omega) h1 _ (by simp) (by omega),if_neg (by simp)]
      rfl
    | true =>
      have hd:=J6 l p.1 schemes[i].State ⟨0,b⟩ (nX p.1 schemes[i].Version.Credits).1
      rw [cond_true,Option.bind_some,OC l hl _ _ _ _ (by omega) c1,Option.bind_some,EP _ _ _ _ _ _ _ _ (by omega) h1 _ (by omega) (by omega),if_pos rfl]
theorem Ui:∀ (j:Nat) (h:j < Ao.length),(Ao[j]).2 = (j:Int)+1∧((Ao[j]).2 = 1∨(Ao[j]).2≠1∧dv (Ao[j]).2 = some (Ao[j]).1):=by
  intro j h
  have h7:Ao.length = 7:=rfl
  obtain ⟨k2,k3,k4,k5,k6,k7⟩:=RC
  have:j = 0∨j = 1∨j = 2∨j = 3∨j = 4∨j = 5∨j = 6:=by omega
  rcases this with e | e | e | e | e | e | e <;> subst e
  · exact ⟨rfl, .inl rfl⟩
  · exact ⟨rfl, .inr ⟨show (2:Int)≠1 by decide,k2⟩⟩
  · exact ⟨rfl, .inr ⟨show (3:Int)≠1 by decide,k3⟩⟩
  · exact ⟨rfl, .inr ⟨show (4:Int)≠1 by decide,k4⟩⟩
  · exact ⟨rfl, .inr ⟨show (5:Int)≠1 by decide,k5⟩⟩
  · exact ⟨rfl, .inr ⟨show (6:Int)≠1 by decide,k6⟩⟩
  · exact ⟨rfl, .inr ⟨show (7:Int)≠1 by decide,k7⟩⟩
theorem RO (l:List GFact) (hl:l.length≤900) (law:List GSegment) (hw:law.length≤99000) (schemes:List GScheme) (hn:schemes.length≤1000) (b:Int) (i:Nat) (hi:i < schemes.length) (hx:Cu schemes[i]) (out:List GPeriod) (ho:out.length≤600000000) :
    cO l law schemes b (i:Int) out = cO l law schemes b ((i+1:Nat):Int) (out++DD l law ⟨0,b⟩ schemes[i]):=by
  have h7:Ao.length = 7:=rfl
  have:=zP Ao (fun j o=>bO l law schemes b (i:Int) schemes[i].State (j+1) (out++o)) (zr l law ⟨0,b⟩ schemes[i]) 73050 (fun _ _=>Tl _ _ _ _ _) fun j o hj hoo=>by
    obtain ⟨e1,e2⟩:=Ui j hj
    show bO l law schemes b (i:Int) schemes[i].State ((j:Int)+1) (out++o) = bO l law schemes b (i:Int) schemes[i].State (((j+1:Nat):Int)+1) (out++(o++zr l law ⟨0,b⟩ schemes[i] Ao[j]))
    rw [← e1,SF l hl law hw schemes b i hi hx (out++o) (by rw [List.length_append]; omega) (Ao[j]) e2 (by omega) (by omega),List.append_assoc,e1]
    rfl
  rw [VT] at this
  simp only [List.append_nil] at this
  rw [oY]
  simp only [aP hi,bj,cond_true,ay,Bool.or_true,bd hi,aW hi (by omega)]
  refine Eq.trans this ?_
  rw [h7,np,aE (by omega),cond_false,aW hi (by omega)]
theorem SZ (l:List GFact) (hl:l.length≤900) (law:List GSegment) (hw:law.length≤99000) (schemes:List GScheme) (hn:schemes.length≤1000) (hx:∀ x∈schemes,Cu x) (b:Int) :
    cO l law schemes b 0 [] = some (Cv l law schemes ⟨0,b⟩,0):=by
  refine (zP schemes (fun i out=>cO l law schemes b i out) (DD l law ⟨0,b⟩) 600000 (fun x _=>L5 _ _ _ _) fun i o hi ho=>RO l hl law hw schemes hn b i hi (hx _ (List.getElem_mem hi)) o (by
      have:i*600000≤1000*600000:=Nat.mul_le_mul_right _ (by omega)
      omega)).trans ?_
  show cO _ _ _ _ _ (Cv l law schemes ⟨0,b⟩) = _
  rw [oY,aX]; rfl
def LE (schemes:List GScheme) (i:Nat):Bool:=(decide ((gD schemes i (zS .GScheme)).State < 0)||decide (6≤(gD schemes i (zS .GScheme)).State))||(decide (0 < i)&&decide ((gD schemes i (zS .GScheme)).State≤(gD schemes (i - 1) (zS .GScheme)).State))
theorem Q1 (schemes:List GScheme) (hn:schemes.length≤1000) (i:Nat) (hi:i < schemes.length) (y n:Option (List GPeriod × Int)) :
    (bif aa ((i:Int) < (schemes.length:Int)) then gb (aa (0≤(i:Int)))<|gb (aa ((i:Int) < (schemes.length:Int)))<|gb ((!(aa (0 < (i:Int))&&((!(bif aa ((gD schemes ((i:Int)).toNat (zS .GScheme)).State < 0) then true else aa (6≤(gD schemes ((i:Int)).toNat (zS .GScheme)).State)))&&true)))||aa (0≤(ab ((i:Int) - 1)))) <|
      gb ((!(aa (0 < (i:Int))&&((!(bif aa ((gD schemes ((i:Int)).toNat (zS .GScheme)).State < 0) then true else aa (6≤(gD schemes ((i:Int)).toNat (zS .GScheme)).State)))&&true)))||aa ((ab ((i:Int) - 1)) < (schemes.length:Int))) <|
      bif (bif (bif aa ((gD schemes ((i:Int)).toNat (zS .GScheme)).State < 0) then true else aa (6≤(gD schemes ((i:Int)).toNat (zS .GScheme)).State)) then true else (bif aa (0 < (i:Int)) then aa ((gD schemes ((i:Int)).toNat (zS .GScheme)).State≤(gD schemes (ab ((i:Int) - 1)).toNat (zS .GScheme)).State) else false)) then y else n else none) =
    if LE schemes i = true then y else n:=by
  rw [aP hi,cond_true,bj,ay,ay]
  have hw:0 < i→ab ((i:Int) - 1) = ((i - 1:Nat):Int):=fun h=>by rw [ah (by omega) (by omega)]; omega
  by_cases h0:0 < i
  · rw [hw h0,bj,aB (show ((i - 1:Nat):Int) < (schemes.length:Int) by omega),Bool.or_true,ay,ay,Int.toNat_natCast,Int.toNat_natCast,aB (show (0:Int) < (i:Int) by omega),cond_true,cW,cW]
    unfold LE
    rw [decide_eq_true h0,Bool.true_and]
    cases ((decide ((gD schemes i (zS .GScheme)).State < 0)||decide (6≤(gD schemes i (zS .GScheme)).State))||decide ((gD schemes i (zS .GScheme)).State≤(gD schemes (i - 1) (zS .GScheme)).State)) <;> rfl
  · rw [aE (show ¬ (0:Int) < (i:Int) by omega),Bool.false_and,Bool.not_false,Bool.true_or,Bool.true_or,ay,ay,Int.toNat_natCast,cond_false,cW,cW]
    unfold LE
    rw [decide_eq_false h0,Bool.false_and]
    cases ((decide ((gD schemes i (zS .GScheme)).State < 0)||decide (6≤(gD schemes i (zS .GScheme)).State))||false) <;> rfl
end Go.Ax
