import Derived.Test.YtokecajedkojlaaGreatYP12
set_option linter.all false
/- What the states claim, by the program and by the document. -/
set_option maxRecDepth 100000
namespace Go.Ax
def HB (s ref:Int) (f:GFact):Bool:=(ah f.Kind 10&&ah f.State s)&&ah f.Ref ref
def iM (c:List GFact) (s ref:Int):List GSpan:=(c.filter (HB s ref)).map GFact.Span
theorem Gl (c:List GFact) (s r:Int):(iM c s r).length≤c.length:=by
  unfold iM
  rw [List.length_map]
  exact List.length_filter_le _ _
theorem gw (l:List GSpan) (s:GSpan):(aZ l s).length≤73050:=pk (ca l s).1
noncomputable def l5 (limit:Int) (d:List GSpan):List GSpan:=if limit = 0 then d else io limit (bc d)
theorem HK (limit:Int) (d:List GSpan):(l5 limit d).length≤d.length:=by
  unfold l5
  split
  · exact Nat.le_refl _
  · exact Nat.le_trans (wU _ _) (bx d).2.2
noncomputable def k8 (l:List GFact) (s:Int) (past:GSpan) (limit ref:Int):List GSpan :=
  if 0 < (iM (l.filter bw) s ref).length then l5 limit (aZ (aZ (iM (l.filter bw) s ref) (eh l)) past) else []
theorem uy (l:List GSpan) (s:GSpan):(aZ l s).length≤l.length+1:=by
  have h1:=(bx l).2.2
  have h2:(bc [s]).length≤1:=(bx [s]).2.2
  have key:∀ (a b:List GSpan),(dt a b).length≤a.length+b.length:=by
    intro a b
    induction a,b using dt.induct with
    | case1 b=>rw [iu]; simp
    | case2 s r=>rw [jd]; simp
    | case3 s r t u ih1 ih2 =>
      have:=Cj s t
      rw [jf,List.length_append]
      split
      · simp only [List.length_cons] at ih1 ⊢; omega
      · simp only [List.length_cons] at ih2 ⊢; omega
  have:=key (bc l) (bc [s])
  unfold aZ
  omega
theorem Jh (l:List GFact):(l.filter bw).length≤l.length:=List.length_filter_le _ _
theorem DS (l:List GFact) (hl:l.length≤900) (s:Int) (past:GSpan) (limit ref:Int):(k8 l s past limit ref).length≤902:=by
  have h1:=Gl (l.filter bw) s ref
  have h2:=Jh l
  have h3:=uy (iM (l.filter bw) s ref) (eh l)
  have h4:=uy (aZ (iM (l.filter bw) s ref) (eh l)) past
  unfold k8
  split
  · have:=HK limit (aZ (aZ (iM (l.filter bw) s ref) (eh l)) past); omega
  · simp
noncomputable def rt (l:List GFact) (s:Int) (past:GSpan) (limit:Int):List GSpan:=(List.range 99).flatMap fun (i:Nat)=>k8 l s past limit ((i:Int)+1)
theorem rm {T A:Type} (g:T→List A) (B:Nat):∀ l:List T,(∀ x∈l,(g x).length≤B)→(l.flatMap g).length≤l.length*B
  | [],_=>by simp
  | x :: r,h=>by
    have h1:=h x (List.mem_cons_self)
    have h2:=rm g B r fun y hy=>h y (List.mem_cons_of_mem _ hy)
    rw [List.flatMap_cons,List.length_append,List.length_cons,Nat.succ_mul]
    omega
theorem KQ (l:List GFact) (hl:l.length≤900) (s:Int) (past:GSpan) (limit:Int):(rt l s past limit).length≤99*902:=by
  have:=rm (fun (i:Nat)=>k8 l s past limit ((i:Int)+1)) 902 (List.range 99) fun x _=>DS _ hl _ _ _ _
  rw [List.length_range] at this
  exact this
theorem Mm (l:List GFact) (s limit ch:Int) (past:GSpan) (out:List GSpan) (c:List GFact) (hc:c.length≤1000000):aT l s limit ch (c.length:Int) 0 past out [] c = aT l s limit ch (c.length:Int) (c.length:Int) past out (iM c s ch) c:=by
  unfold iM
  refine AM c (fun i d=>aT l s limit ch (c.length:Int) i past out d c) (HB s ch) GFact.Span fun i d hi hd=>?_
  show aT _ _ _ _ _ _ _ _ _ _ = aT _ _ _ _ _ _ _ _ _ _
  rw [iS]
  simp only [bG hi,cd,cond_true,aK,Bool.or_true,cy hi,bP hi (by omega)]
  rw [kN (by omega) (by omega),ck,ck]
  show (bif HB s ch c[i] then _ else _) = _
  cases HB s ch c[i] <;> rfl
theorem NE (i:Nat) (h:i < 99):ac (((i:Nat):Int)+1+1) = ((i+1:Nat):Int)+1:=by rw [ak (by omega) (by omega)]; omega
theorem Ky (l:List GFact) (hl:l.length≤900) (s limit:Int) (past:GSpan) (h1:limit≤1000000000000) (h2:0 < limit) (i:Nat) (hi:i < 99) (out:List GSpan) (ho:out.length≤i*902) :
    bB l s limit ((i:Int)+1) past out = bB l s limit (((i+1:Nat):Int)+1) past (out++k8 l s past limit ((i:Int)+1)):=by
  have hc:=Jh l
  have hk:=Gl (l.filter bw) s ((i:Int)+1)
  rw [kG,bY (p:=((i:Nat):Int)+1≤99) (by omega),cond_true,wc l (by omega),Option.bind_some,Mm _ _ _ _ _ _ _ (by omega),iS,bU,cond_false]
  unfold k8
  by_cases h:0 < (iM (l.filter bw) s ((i:Int)+1)).length
  · rw [if_pos h,bY (show (0:Int) < ((iM (l.filter bw) s ((i:Int)+1)).length:Int) by omega),cond_true,rK l (by omega),Option.bind_some,gP _ _ (by omega),Option.bind_some]
    have c1:=gw (iM (l.filter bw) s ((i:Int)+1)) (eh l)
    rw [gP _ _ (by omega),Option.bind_some]
    have c2:=gw (aZ (iM (l.filter bw) s ((i:Int)+1)) (eh l)) past
    have hp:=wU (bc (aZ (aZ (iM (l.filter bw) s ((i:Int)+1)) (eh l)) past)) limit
    have hm:=(bx (aZ (aZ (iM (l.filter bw) s ((i:Int)+1)) (eh l)) past)).2.2
    rw [qe _ _ (by omega) h1 (by omega),Option.bind_some,bH (by omega),bH (by omega),NE i hi]
    unfold l5
    rw [if_neg (by omega)]
  · rw [if_neg h,em (show ¬ (0:Int) < ((iM (l.filter bw) s ((i:Int)+1)).length:Int) by omega),cond_false,NE i hi,List.append_nil]
theorem uC (l:List GFact) (hl:l.length≤900) (s limit:Int) (past:GSpan) (h1:limit≤1000000000000) (h2:0 < limit):iF l s past limit = some (bc (rt l s past limit)):=by
  have hk:=KQ l hl s past limit
  rw [vT]
  refine (tx (List.range 99) (fun i out=>bB l s limit (i+1) past out) (fun (i:Nat)=>k8 l s past limit ((i:Int)+1)) 902 (fun x _=>DS _ hl _ _ _ _) fun i out hi ho=>?_).trans ?_
  · rw [List.length_range] at hi
    rw [List.getElem_range]
    exact Ky l hl s limit past h1 h2 i hi out ho
  · show bB l s limit (((List.range 99).length:Int)+1) past (rt l s past limit) = _
    rw [List.length_range,kG,em (by omega),cond_false,fc _ (by omega)]
    rfl
noncomputable def ir (l:List GFact) (kind s:Int) (past:GSpan) (limit:Int):List GSpan :=
  if kind = 10 then bc (rt l s past limit) else l5 limit (aZ (aZ (dO l kind s) (eh l)) past)
theorem Ea (l:List GFact) (kind s:Int) (past:GSpan) (limit:Int):(ir l kind s past limit).length≤73050:=by
  unfold ir
  split
  · exact pk (bx _).1
  · exact Nat.le_trans (HK _ _) (gw _ _)
theorem ka {T:Type} (g:T→List GSpan) (d:Int):∀ l:List T,bg (l.flatMap g) d↔∃ x∈l,bg (g x) d
  | []=>by simp [bg]
  | x :: r=>by rw [List.flatMap_cons,ji,ka g d r]; simp
theorem yw {l:List GFact} {k s:Int} {x:GSpan}:x∈dO l k s↔∃ f∈l,bw f = true∧f.Kind = k∧f.State = s∧f.Span = x:=by
  unfold dO pQ
  simp only [List.mem_map,List.mem_filter,Bool.and_eq_true,beq_iff_eq,ah]
  constructor
  · rintro ⟨f,⟨⟨h1,h2⟩,h3,h4⟩,h5⟩; exact ⟨f,h1,h2,h3,h4,h5⟩
  · rintro ⟨f,h1,h2,h3,h4,h5⟩; exact ⟨f,⟨⟨h1,h2⟩,h3,h4⟩,h5⟩
theorem Fy {l:List GFact} {s r:Int} {x:GSpan}:x∈iM (l.filter bw) s r↔∃ f∈l,bw f = true∧f.Kind = 10∧f.State = s∧f.Ref = r∧f.Span = x:=by
  unfold iM HB
  simp only [List.mem_map,List.mem_filter,Bool.and_eq_true,beq_iff_eq,ah]
  constructor
  · rintro ⟨f,⟨⟨h1,h2⟩,⟨h3,h4⟩,h6⟩,h5⟩; exact ⟨f,h1,h2,h3,h4,h6,h5⟩
  · rintro ⟨f,h1,h2,h3,h4,h6,h5⟩; exact ⟨f,⟨⟨h1,h2⟩,⟨h3,h4⟩,h6⟩,h5⟩
theorem LD {f:GFact} (h:bw f = true) (hk:f.Kind = 10):1≤f.Ref∧f.Ref≤99:=by
  unfold bw at h
  have hv:dH f = true:=by
    cases hh:dH f with
    | true=>rfl
    | false=>rw [hh] at h; cases h
  rw [uH] at hv
  have hr:bn (cR f.Kind 82) f.Ref 1 99 = true:=hv.2.2.2.2.2.2.2.2.2.2.2.1
  rw [hk,show cR 10 82 = true from by kernel_rfl] at hr
  unfold bn at hr
  rw [if_pos rfl,sm] at hr
  exact hr
theorem LT (l:List GFact) (s:Int) (past:GSpan):bc (rt l s past 0) = aZ (aZ (dO l 10 s) (eh l)) past:=by
  refine ox (bx _).1 (ca _ _).1 fun d=>?_
  rw [(bx _).2.1,(ca _ _).2,(ca _ _).2]
  unfold rt
  rw [ka]
  constructor
  · rintro ⟨⟨i,hi,hd⟩,h0,h1⟩
    unfold k8 at hd
    split at hd
    · unfold l5 at hd
      rw [if_pos rfl,(ca _ _).2,(ca _ _).2] at hd
      obtain ⟨⟨⟨⟨⟨x,hx,hxd⟩,h2⟩,_⟩,h3⟩,_⟩:=hd
      obtain ⟨f,f1,f2,f3,f4,f5,f6⟩:=Fy.1 hx
      exact ⟨⟨⟨⟨⟨x,yw.2 ⟨f,f1,f2,f3,f4,f6⟩,hxd⟩,h2⟩,h0,h1⟩,h3⟩,h0,h1⟩
    · exact absurd hd aY
  · rintro ⟨⟨⟨⟨⟨x,hx,hxd⟩,h2⟩,_⟩,h3⟩,h0,h1⟩
    obtain ⟨f,f1,f2,f3,f4,f6⟩:=yw.1 hx
    obtain ⟨r1,r2⟩:=LD f2 f3
    refine ⟨⟨(f.Ref - 1).toNat,List.mem_range.2 (by omega), ?_⟩,h0,h1⟩
    have e:(((f.Ref - 1).toNat:Nat):Int)+1 = f.Ref:=by omega
    have hx':x∈iM (l.filter bw) s f.Ref:=Fy.2 ⟨f,f1,f2,f3,f4,rfl,f6⟩
    rw [e]
    unfold k8
    rw [if_pos (List.length_pos_of_mem hx')]
    unfold l5
    rw [if_pos rfl,(ca _ _).2,(ca _ _).2]
    exact ⟨⟨⟨⟨⟨x,hx',hxd⟩,h2⟩,h0,h1⟩,h3⟩,h0,h1⟩
def l7 (s r:Int) (d:List GSpan):List GPeriod:=d.map fun x=>GPeriod.mk s r x
theorem AP (s r:Int) (d:List GSpan):(l7 s r d).length = d.length:=List.length_map _
theorem FT {T A:Type} (g:T→A):∀ l:List T,l.flatMap (fun x=>[g x]) = l.map g
  | []=>rfl
  | x :: r=>by rw [List.flatMap_cons,FT g r]; rfl
theorem nV (rank:Int) (days:List GSpan) (s f:Int) (rd:GRounding) (cr:List GCredit) (se:List GIndex) (le:List GLet) (gr:List GGrant) (re:List GReduce) (out:List GPeriod) (h1:days.length≤1000000) (h2:out.length≤1000000000) :
    gO rank days s f rd cr se le gr re out = some (s,f,rd,cr,se,le,gr,re,out++l7 s rank days):=by
  rw [uL]
  have:=tx days (fun i o=>cM rank days (days.length:Int) i s f rd.Mode rd.Unit cr se le gr re (out++o)) (fun d=>[GPeriod.mk s rank d]) 1 (fun _ _=>by simp) fun i o hi ho=>by
    show cM _ _ _ _ _ _ _ _ _ _ _ _ _ _ = cM _ _ _ _ _ _ _ _ _ _ _ _ _ _
    rw [kI]
    simp only [bG hi,cd,cond_true,aK,Bool.or_true,cy hi,bP hi (by omega)]
    rw [kN (by rw [List.length_append]; omega) (by rw [List.length_append]; omega),List.append_assoc]
  simp only [List.append_nil] at this
  rw [this,FT,kI,bU]
  rfl
def kr:List (Int × Int):=[(6,2),(9,3),(7,4),(8,5),(10,6),(5,7)]
noncomputable def lw (l:List GFact) (x:GScheme) (past:GSpan) (p:Int × Int):List GPeriod :=
  if (eX p.1 x.Version.Credits).2 = true then l7 x.State p.2 (ir l p.1 x.State past (eX p.1 x.Version.Credits).1) else []
theorem GC (l:List GFact) (x:GScheme) (past:GSpan) (p:Int × Int):(lw l x past p).length≤73050:=by
  unfold lw
  split
  · rw [AP]; exact Ea _ _ _ _ _
  · simp
noncomputable def lV (law:List GSegment) (x:GScheme) (past:GSpan):List GPeriod:=l7 x.State 1 (aZ (bc (mt law x.State 3)) past)
theorem BF (law:List GSegment) (x:GScheme) (past:GSpan):(lV law x past).length≤73050:=by
  unfold lV
  rw [AP]
  exact gw _ _
noncomputable def sr (l:List GFact) (law:List GSegment) (past:GSpan) (x:GScheme):List GPeriod:=lV law x past++kr.flatMap (lw l x past)
theorem Gg (l:List GFact) (law:List GSegment) (past:GSpan) (x:GScheme):(sr l law past x).length≤600000:=by
  have h1:=BF law x past
  have h2:=rm (lw l x past) 73050 kr fun p _=>GC _ _ _ _
  have:kr.length = 6:=rfl
  unfold sr
  rw [List.length_append]
  omega
def pn (x:GScheme):Prop:=x.Version.Credits.length≤1000∧∀ c∈x.Version.Credits,0≤c.Limit∧c.Limit≤1000000
theorem HA (k:Int):∀ l:List GCredit,(∀ c∈l,0≤c.Limit∧c.Limit≤1000000)→0≤(eX k l).1∧(eX k l).1≤1000000
  | [],_=>by simp [eX]
  | c :: r,h=>by
    rw [eX]
    split
    · exact h c (List.mem_cons_self)
    · exact HA k r fun d hd=>h d (List.mem_cons_of_mem _ hd)
def dc:List GAnon120:=[⟨6,2⟩,⟨9,3⟩,⟨7,4⟩,⟨8,5⟩,⟨10,6⟩,⟨5,7⟩]
theorem NY:kL = some dc:=by rw [uk]; rfl
theorem OU:dc.map (fun t=>(t.kind,t.rank)) = kr:=rfl
theorem M3 (l:List GFact) (hl:l.length≤900) (law:List GSegment) (T:List GScheme) (n a:Int) (past:GSpan) (x:GScheme) (hx:pn x) (i:Nat) (hi:i < dc.length) (out:List GPeriod) (ho:out.length≤900000000) :
    aS l law T n a (dc.length:Int) (i:Int) past x.State x.Version.From x.Version.Rounding x.Version.Credits x.Version.Series x.Version.Lets x.Version.Grants x.Version.Reduces dc out =
    aS l law T n a (dc.length:Int) ((i+1:Nat):Int) past x.State x.Version.From x.Version.Rounding x.Version.Credits x.Version.Series x.Version.Lets x.Version.Grants x.Version.Reduces dc (out++lw l x past ((dc[i]).kind,(dc[i]).rank)):=by
  have h6:dc.length = 6:=rfl
  rw [i8]
  simp only [mz]
  rw [bG hi,cond_true,cd,aK,aK,cy hi,bP hi (by omega)]
  generalize dc[i] = t
  obtain ⟨c1,c2⟩:=HA t.kind _ hx.2
  rw [wu _ t.kind (by show x.Version.Credits.length≤_; have:=hx.1; omega),Option.bind_some]
  show (bif (!(eX t.kind x.Version.Credits).2) then _ else _) = _
  unfold lw
  cases hc:(eX t.kind x.Version.Credits).2 with
  | false=>rw [show (!false) = true from rfl,cond_true,if_neg (by simp),List.append_nil]
  | true =>
    have hs:=gw (dO l t.kind x.State) (eh l)
    have hs2:=gw (aZ (dO l t.kind x.State) (eh l)) past
    rw [show (!true) = false from rfl,cond_false,zP l t.kind x.State (by omega),Option.bind_some,gP _ _ (by omega),Option.bind_some,if_pos rfl]
    show (bif (bif bq (eX t.kind x.Version.Credits).1 0 then _ else _) then (iF l x.State past (eX t.kind x.Version.Credits).1).bind _ else bif bq (eX t.kind x.Version.Credits).1 0 then (jP _ (eX t.kind x.Version.Credits).1).bind _ else _) = _
    generalize (eX t.kind x.Version.Credits).1 = lim at c1 c2
    have hd:=Ea l t.kind x.State past lim
    by_cases h0:lim = 0
    · subst h0
      have e:aZ (aZ (dO l t.kind x.State) (eh l)) past = ir l t.kind x.State past 0:=by
        unfold ir
        split
        · rename_i hk; rw [LT,hk]
        · unfold l5; rw [if_pos rfl]
      rw [Fm.2 rfl,cond_false,cond_false,cond_false,e,nV _ _ _ _ _ _ _ _ _ _ _ (by omega) (by omega),Option.bind_some]
    · rw [Jj.2 h0,cond_true]
      by_cases hk:t.kind = 10
      · have e:bc (rt l x.State past lim) = ir l t.kind x.State past lim:=by unfold ir; rw [if_pos hk]
        rw [fe.2 hk,cond_true,uC l hl x.State lim past (by omega) (by omega),Option.bind_some,e,nV _ _ _ _ _ _ _ _ _ _ _ (by omega) (by omega),Option.bind_some]
      · have e:io lim (bc (aZ (aZ (dO l t.kind x.State) (eh l)) past)) = ir l t.kind x.State past lim:=by unfold ir l5; rw [if_neg hk,if_neg h0]
        rw [rO.2 hk,cond_false,cond_true,qe _ _ (by omega) (by omega) (by omega),Option.bind_some,e,nV _ _ _ _ _ _ _ _ _ _ _ (by omega) (by omega),Option.bind_some]
theorem Nq (l:List GFact) (hl:l.length≤900) (law:List GSegment) (T:List GScheme) (n a:Int) (o1:List GPeriod) (ho:o1.length≤700000000) (past:GSpan) (x:GScheme) (hx:pn x) :
    aS l law T n a (dc.length:Int) 0 past x.State x.Version.From x.Version.Rounding x.Version.Credits x.Version.Series x.Version.Lets x.Version.Grants x.Version.Reduces dc o1 = bh l law T n (ac (a+1)) past (o1++kr.flatMap (lw l x past)):=by
  have h6:dc.length = 6:=rfl
  have:=tx dc (fun i o=>aS l law T n a (dc.length:Int) i past x.State x.Version.From x.Version.Rounding x.Version.Credits x.Version.Series x.Version.Lets x.Version.Grants x.Version.Reduces dc (o1++o)) (fun t=>lw l x past (t.kind,t.rank)) 73050 (fun t _=>GC _ _ _ _) fun i o hi hoo=>by
    show aS _ _ _ _ _ _ _ _ _ _ _ _ _ _ _ _ _ _ = _
    rw [M3 l hl law T n a past x hx i hi (o1++o) (by rw [List.length_append]; omega),List.append_assoc]
  simp only [List.append_nil] at this
  rw [this, ← OU,List.flatMap_map,i8,bU,cond_false]
theorem MD (l:List GFact) (hl:l.length≤900) (law:List GSegment) (hw:law.length≤100000) (schemes:List GScheme) (hn:schemes.length≤1000) (past:GSpan) (i:Nat) (hi:i < schemes.length) (hx:pn schemes[i]) (out:List GPeriod) (ho:out.length≤600000000) :
    bh l law schemes (schemes.length:Int) (i:Int) past out = bh l law schemes (schemes.length:Int) ((i+1:Nat):Int) past (out++sr l law past schemes[i]):=by
  have hu:=A2 law schemes[i].State 3
  have hm:=(bx (mt law schemes[i].State 3)).2.2
  have hf:=BF law schemes[i] past
  have hc:=gw (bc (mt law schemes[i].State 3)) past
  rw [kJ]
  simp only [bG hi,cd,cond_true,aK,Bool.or_true,cy hi,bP hi (by omega)]
  rw [uF law _ _ (by omega),Option.bind_some,gP _ _ (by omega),Option.bind_some,nV _ _ _ _ _ _ _ _ _ _ _ (by omega) (by omega),Option.bind_some,NY,Option.bind_some]
  refine (Nq l hl law schemes (schemes.length:Int) (i:Int) (out++lV law schemes[i] past) (by rw [List.length_append]; omega) past schemes[i] hx).trans ?_
  rw [bP hi (by omega),List.append_assoc]
  rfl
noncomputable def dM (l:List GFact) (law:List GSegment) (schemes:List GScheme) (past:GSpan):List GPeriod:=schemes.flatMap (sr l law past)
theorem yR (l:List GFact) (law:List GSegment) (schemes:List GScheme) (h:schemes.length≤1000) (past:GSpan):(dM l law schemes past).length≤600000000:=by
  have:=rm (sr l law past) 600000 schemes fun x _=>Gg _ _ _ _
  have h2:schemes.length*600000≤1000*600000:=Nat.mul_le_mul_right _ h
  unfold dM
  omega
theorem Fv (l:List GFact) (hl:l.length≤900) (law:List GSegment) (hw:law.length≤100000) (schemes:List GScheme) (hn:schemes.length≤1000) (hx:∀ x∈schemes,pn x) (past:GSpan) :
    bh l law schemes (schemes.length:Int) 0 past [] = some (dM l law schemes past,0):=by
  refine (tx schemes (fun i out=>bh l law schemes (schemes.length:Int) i past out) (sr l law past) 600000 (fun x _=>Gg _ _ _ _) fun i o hi ho=>MD l hl law hw schemes hn past i hi (hx _ (List.getElem_mem hi)) o (by
      have:i*600000≤1000*600000:=Nat.mul_le_mul_right _ (by omega)
      omega)).trans ?_
  show bh _ _ _ _ _ _ (dM l law schemes past) = _
  rw [kJ,bU]; rfl
def Dx (schemes:List GScheme) (i:Nat):Bool:=(decide ((gD schemes i (zS .GScheme)).State < 0)||decide (6≤(gD schemes i (zS .GScheme)).State))||(decide (0 < i)&&decide ((gD schemes i (zS .GScheme)).State≤(gD schemes (i - 1) (zS .GScheme)).State))
theorem JN (schemes:List GScheme) (hn:schemes.length≤1000) (i:Nat) (hi:i < schemes.length) (y n:Option (List GPeriod × Int)) :
    (bif aa ((i:Int) < (schemes.length:Int)) then gb (aa (0≤(i:Int)))<|gb (aa ((i:Int) < (schemes.length:Int)))<|gb ((!(aa (0 < (i:Int))&&((!(bif aa ((gD schemes ((i:Int)).toNat (zS .GScheme)).State < 0) then true else aa (6≤(gD schemes ((i:Int)).toNat (zS .GScheme)).State)))&&true)))||aa (0≤(ac ((i:Int) - 1)))) <|
      gb ((!(aa (0 < (i:Int))&&((!(bif aa ((gD schemes ((i:Int)).toNat (zS .GScheme)).State < 0) then true else aa (6≤(gD schemes ((i:Int)).toNat (zS .GScheme)).State)))&&true)))||aa ((ac ((i:Int) - 1)) < (schemes.length:Int))) <|
      bif (bif (bif aa ((gD schemes ((i:Int)).toNat (zS .GScheme)).State < 0) then true else aa (6≤(gD schemes ((i:Int)).toNat (zS .GScheme)).State)) then true else (bif aa (0 < (i:Int)) then aa ((gD schemes ((i:Int)).toNat (zS .GScheme)).State≤(gD schemes (ac ((i:Int) - 1)).toNat (zS .GScheme)).State) else false)) then y else n else none) =
    if Dx schemes i = true then y else n:=by
  rw [bG hi,cond_true,cd,aK,aK]
  have hw:0 < i→ac ((i:Int) - 1) = ((i - 1:Nat):Int):=fun h=>by rw [ak (by omega) (by omega)]; omega
  by_cases h0:0 < i
  · rw [hw h0,cd,bY (show ((i - 1:Nat):Int) < (schemes.length:Int) by omega),Bool.or_true,aK,aK,Int.toNat_natCast,Int.toNat_natCast,bY (show (0:Int) < (i:Int) by omega),cond_true,fp,fp]
    unfold Dx
    rw [decide_eq_true h0,Bool.true_and]
    cases ((decide ((gD schemes i (zS .GScheme)).State < 0)||decide (6≤(gD schemes i (zS .GScheme)).State))||decide ((gD schemes i (zS .GScheme)).State≤(gD schemes (i - 1) (zS .GScheme)).State)) <;> rfl
  · rw [em (show ¬ (0:Int) < (i:Int) by omega),Bool.false_and,Bool.not_false,Bool.true_or,Bool.true_or,aK,aK,Int.toNat_natCast,cond_false,fp,fp]
    unfold Dx
    rw [decide_eq_false h0,Bool.false_and]
    cases ((decide ((gD schemes i (zS .GScheme)).State < 0)||decide (6≤(gD schemes i (zS .GScheme)).State))||false) <;> rfl
end Go.Ax
