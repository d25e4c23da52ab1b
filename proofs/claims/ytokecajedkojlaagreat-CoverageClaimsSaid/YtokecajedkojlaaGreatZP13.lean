import Derived.Test.YtokecajedkojlaaGreatZP12
set_option linter.all false
/- What the states claim, by the program and by the document. -/
set_option maxRecDepth 100000
namespace Go.Ax
def wY (s ref:Int) (f:GFact):Bool:=(ah f.Kind 10&&ah f.State s)&&ah f.Ref ref
def eX (c:List GFact) (s ref:Int):List GSpan:=(c.filter (wY s ref)).map GFact.Span
theorem Bb (c:List GFact) (s r:Int):(eX c s r).length≤c.length:=by
  unfold eX
  rw [List.length_map]
  exact List.length_filter_le _ _
theorem di (l:List GSpan) (s:GSpan):(bp l s).length≤73050:=Cw (iJ l s).1
noncomputable def nC (limit:Int) (d:List GSpan):List GSpan:=if limit = 0 then d else gI limit (aV d)
theorem G3 (limit:Int) (d:List GSpan):(nC limit d).length≤d.length:=by
  unfold nC
  split
  · exact Nat.le_refl _
  · exact Nat.le_trans (xc _ _) (cw d).2.2
noncomputable def lF (l:List GFact) (s:Int) (past:GSpan) (limit ref:Int):List GSpan :=
  if 0 < (eX (l.filter aU) s ref).length then nC limit (bp (bp (eX (l.filter aU) s ref) (dw l)) past) else []
theorem vh (l:List GSpan) (s:GSpan):(bp l s).length≤l.length+1:=by
  have h1:=(cw l).2.2
  have h2:(aV [s]).length≤1:=(cw [s]).2.2
  have key:∀ (a b:List GSpan),(dC a b).length≤a.length+b.length:=by
    intro a b
    induction a,b using dC.induct with
    | case1 b=>rw [iI]; simp
    | case2 s r=>rw [jo]; simp
    | case3 s r t u ih1 ih2 =>
      have:=DC s t
      rw [jt,List.length_append]
      split
      · simp only [List.length_cons] at ih1 ⊢; omega
      · simp only [List.length_cons] at ih2 ⊢; omega
  have:=key (aV l) (aV [s])
  unfold bp
  omega
theorem Ds (l:List GFact):(l.filter aU).length≤l.length:=List.length_filter_le _ _
theorem sh (l:List GFact) (hl:l.length≤900) (s:Int) (past:GSpan) (limit ref:Int):(lF l s past limit ref).length≤902:=by
  have h1:=Bb (l.filter aU) s ref
  have h2:=Ds l
  have h3:=vh (eX (l.filter aU) s ref) (dw l)
  have h4:=vh (bp (eX (l.filter aU) s ref) (dw l)) past
  unfold lF
  split
  · have:=G3 limit (bp (bp (eX (l.filter aU) s ref) (dw l)) past); omega
  · simp
noncomputable def rY (l:List GFact) (s:Int) (past:GSpan) (limit:Int):List GSpan:=(List.range 99).flatMap fun (i:Nat)=>lF l s past limit ((i:Int)+1)
theorem rX {T A:Type} (g:T→List A) (B:Nat):∀ l:List T,(∀ x∈l,(g x).length≤B)→(l.flatMap g).length≤l.length*B
  | [],_=>by simp
  | x :: r,h=>by
    have h1:=h x (List.mem_cons_self)
    have h2:=rX g B r fun y hy=>h y (List.mem_cons_of_mem _ hy)
    rw [List.flatMap_cons,List.length_append,List.length_cons,Nat.succ_mul]
    omega
theorem Fb (l:List GFact) (hl:l.length≤900) (s:Int) (past:GSpan) (limit:Int):(rY l s past limit).length≤99*902:=by
  have:=rX (fun (i:Nat)=>lF l s past limit ((i:Int)+1)) 902 (List.range 99) fun x _=>sh _ hl _ _ _ _
  rw [List.length_range] at this
  exact this
theorem NT (l:List GFact) (s limit ch:Int) (past:GSpan) (out:List GSpan) (c:List GFact) (hc:c.length≤1000000):aT l s limit ch (c.length:Int) 0 past out [] c = aT l s limit ch (c.length:Int) (c.length:Int) past out (eX c s ch) c:=by
  unfold eX
  refine tU c (fun i d=>aT l s limit ch (c.length:Int) i past out d c) (wY s ch) GFact.Span fun i d hi hd=>?_
  show aT _ _ _ _ _ _ _ _ _ _ = aT _ _ _ _ _ _ _ _ _ _
  rw [jd]
  simp only [be hi,bA,cond_true,aC,Bool.or_true,bK hi,bc hi (by omega)]
  rw [im (by omega) (by omega),bM,bM]
  show (bif wY s ch c[i] then _ else _) = _
  cases wY s ch c[i] <;> rfl
theorem ON (l:List GFact) (s b limit ch:Int) (out:List GSpan) (c:List GFact) (hc:c.length≤1000000):bf l s b limit ch 0 c out [] = bf l s b limit ch (c.length:Int) c out (eX c s ch):=by
  unfold eX
  refine tU c (fun i d=>bf l s b limit ch i c out d) (wY s ch) GFact.Span fun i d hi hd=>?_
  show bf _ _ _ _ _ _ _ _ _ = bf _ _ _ _ _ _ _ _ _
  rw [ka]
  simp only [be hi,bA,cond_true,aC,Bool.or_true,bK hi,bc hi (by omega)]
  rw [im (by omega) (by omega),bM,bM]
  show (bif wY s ch c[i] then _ else _) = _
  cases wY s ch c[i] <;> rfl
theorem tk (d:List GSpan) (b limit:Int) (hd:d.length≤100000) (h1:limit≤1000000000000) (h2:0≤limit):jk d b limit = some (nC limit (bp d ⟨0,b⟩)):=by
  rw [Au,lI d _ hd,Option.bind_some]
  unfold nC
  by_cases h:limit = 0
  · rw [if_pos h,dn.2 h]; rfl
  · rw [if_neg h,lG.2 h,cond_false,CA _ _ (by have:=di d ⟨0,b⟩; omega) h1 (by omega)]
    rfl
theorem Gh (i:Nat) (h:i < 99):ac (((i:Nat):Int)+1+1) = ((i+1:Nat):Int)+1:=by rw [ak (by omega) (by omega)]; omega
theorem La (l:List GFact) (hl:l.length≤900) (s limit:Int) (past:GSpan) (h1:limit≤1000000000000) (h2:0 < limit) (i:Nat) (hi:i < 99) (out:List GSpan) (ho:out.length≤i*902) :
    bH l s limit ((i:Int)+1) past out = bH l s limit (((i+1:Nat):Int)+1) past (out++lF l s past limit ((i:Int)+1)):=by
  have hc:=Ds l
  have hk:=Bb (l.filter aU) s ((i:Int)+1)
  rw [kV,bG (p:=((i:Nat):Int)+1≤99) (by omega),cond_true,yh l (by omega),Option.bind_some,NT _ _ _ _ _ _ _ (by omega),jd,bm,cond_false]
  unfold lF
  by_cases h:0 < (eX (l.filter aU) s ((i:Int)+1)).length
  · rw [if_pos h,bG (show (0:Int) < ((eX (l.filter aU) s ((i:Int)+1)).length:Int) by omega),cond_true,sf l (by omega),Option.bind_some,ic _ _ (by omega),Option.bind_some]
    have c1:=di (eX (l.filter aU) s ((i:Int)+1)) (dw l)
    rw [ic _ _ (by omega),Option.bind_some]
    have c2:=di (bp (eX (l.filter aU) s ((i:Int)+1)) (dw l)) past
    have hp:=xc (aV (bp (bp (eX (l.filter aU) s ((i:Int)+1)) (dw l)) past)) limit
    have hm:=(cw (bp (bp (eX (l.filter aU) s ((i:Int)+1)) (dw l)) past)).2.2
    rw [rm _ _ (by omega) h1 (by omega),Option.bind_some,bC (by omega),bC (by omega),Gh i hi]
    unfold nC
    rw [if_neg (by omega)]
  · rw [if_neg h,dB (show ¬ (0:Int) < ((eX (l.filter aU) s ((i:Int)+1)).length:Int) by omega),cond_false,Gh i hi,List.append_nil]
theorem v7 (l:List GFact) (hl:l.length≤900) (s limit:Int) (past:GSpan) (h1:limit≤1000000000000) (h2:0 < limit):iz l s past limit = some (aV (rY l s past limit)):=by
  have hk:=Fb l hl s past limit
  rw [wy]
  refine (mn (List.range 99) (fun i out=>bH l s limit (i+1) past out) (fun (i:Nat)=>lF l s past limit ((i:Int)+1)) 902 (fun x _=>sh _ hl _ _ _ _) fun i out hi ho=>?_).trans ?_
  · rw [List.length_range] at hi
    rw [List.getElem_range]
    exact La l hl s limit past h1 h2 i hi out ho
  · show bH l s limit (((List.range 99).length:Int)+1) past (rY l s past limit) = _
    rw [List.length_range,kV,dB (by omega),cond_false,ii _ (by omega)]
    rfl
theorem LN (l:List GFact) (hl:l.length≤900) (s limit b:Int) (h1:limit≤1000000000000) (h2:0≤limit) (i:Nat) (hi:i < 99) (out:List GSpan) (ho:out.length≤i*902) :
    bO l s b limit ((i:Int)+1) (l.filter aU) out = bO l s b limit (((i+1:Nat):Int)+1) (l.filter aU) (out++lF l s ⟨0,b⟩ limit ((i:Int)+1)):=by
  have hc:=Ds l
  have hk:=Bb (l.filter aU) s ((i:Int)+1)
  have hpl:=sh l hl s ⟨0,b⟩ limit ((i:Int)+1)
  rw [lq,bG (p:=((i:Nat):Int)+1≤99) (by omega),cond_true,ON _ _ _ _ _ _ _ (by omega),ka,bm,cond_false]
  unfold lF at hpl ⊢
  by_cases h:0 < (eX (l.filter aU) s ((i:Int)+1)).length
  · rw [if_pos h] at hpl ⊢
    rw [bG (show (0:Int) < ((eX (l.filter aU) s ((i:Int)+1)).length:Int) by omega),cond_true,il l (by omega),Option.bind_some,lI _ _ (by omega),Option.bind_some]
    have c1:=di (eX (l.filter aU) s ((i:Int)+1)) (dw l)
    rw [tk _ b limit (by omega) h1 h2,Option.bind_some,bC (by omega),bC (by omega),Gh i hi]
  · rw [if_neg h,dB (show ¬ (0:Int) < ((eX (l.filter aU) s ((i:Int)+1)).length:Int) by omega),cond_false,Gh i hi,List.append_nil]
noncomputable def jB (l:List GFact) (kind s:Int) (past:GSpan) (limit:Int):List GSpan :=
  if kind = 10 then aV (rY l s past limit) else nC limit (bp (bp (df l kind s) (dw l)) past)
theorem xM (l:List GFact) (kind s:Int) (past:GSpan) (limit:Int):(jB l kind s past limit).length≤73050:=by
  unfold jB
  split
  · exact Cw (cw _).1
  · exact Nat.le_trans (G3 _ _) (di _ _)
theorem Ig (l:List GFact) (hl:l.length≤900) (kind s limit b:Int) (h1:limit≤1000000000000) (h2:0≤limit):nR l kind s b limit = some (jB l kind s ⟨0,b⟩ limit):=by
  rw [yQ]
  unfold jB
  by_cases hk:kind = 10
  · subst hk
    have hkk:=Fb l hl s ⟨0,b⟩ limit
    rw [if_pos rfl,Bq.2 rfl,cond_false,dF l (by omega),Option.bind_some]
    refine (mn (List.range 99) (fun i out=>bO l s b limit (i+1) (l.filter aU) out) (fun (i:Nat)=>lF l s ⟨0,b⟩ limit ((i:Int)+1)) 902 (fun x _=>sh _ hl _ _ _ _) fun i out hi ho=>?_).trans ?_
    · rw [List.length_range] at hi
      rw [List.getElem_range]
      exact LN l hl s limit b h1 h2 i hi out ho
    · show bO l s b limit (((List.range 99).length:Int)+1) (l.filter aU) (rY l s ⟨0,b⟩ limit) = _
      rw [List.length_range,lq,dB (by omega),cond_false,jY _ (by omega)]
      rfl
  · have hs:=di (df l kind s) (dw l)
    rw [if_neg hk,DX.2 hk,cond_true,Bf l kind s (by omega),Option.bind_some,tk _ b limit (by omega) h1 h2]
    rfl
theorem HF {T:Type} (g:T→List GSpan) (d:Int):∀ l:List T,cO (l.flatMap g) d↔∃ x∈l,cO (g x) d
  | []=>by simp [cO]
  | x :: r=>by rw [List.flatMap_cons,lZ,HF g d r]; simp
theorem zr {l:List GFact} {k s:Int} {x:GSpan}:x∈df l k s↔∃ f∈l,aU f = true∧f.Kind = k∧f.State = s∧f.Span = x:=by
  unfold df kS
  simp only [List.mem_map,List.mem_filter,Bool.and_eq_true,beq_iff_eq,ah]
  constructor
  · rintro ⟨f,⟨⟨h1,h2⟩,h3,h4⟩,h5⟩; exact ⟨f,h1,h2,h3,h4,h5⟩
  · rintro ⟨f,h1,h2,h3,h4,h5⟩; exact ⟨f,⟨⟨h1,h2⟩,h3,h4⟩,h5⟩
theorem HK {l:List GFact} {s r:Int} {x:GSpan}:x∈eX (l.filter aU) s r↔∃ f∈l,aU f = true∧f.Kind = 10∧f.State = s∧f.Ref = r∧f.Span = x:=by
  unfold eX wY
  simp only [List.mem_map,List.mem_filter,Bool.and_eq_true,beq_iff_eq,ah]
  constructor
  · rintro ⟨f,⟨⟨h1,h2⟩,⟨h3,h4⟩,h6⟩,h5⟩; exact ⟨f,h1,h2,h3,h4,h6,h5⟩
  · rintro ⟨f,h1,h2,h3,h4,h6,h5⟩; exact ⟨f,⟨⟨h1,h2⟩,⟨h3,h4⟩,h6⟩,h5⟩
theorem MR {f:GFact} (h:aU f = true) (hk:f.Kind = 10):1≤f.Ref∧f.Ref≤99:=by
  unfold aU at h
  have hv:dU f = true:=by
    cases hh:dU f with
    | true=>rfl
    | false=>rw [hh] at h; cases h
  rw [uL] at hv
  have hr:bt (cW f.Kind 82) f.Ref 1 99 = true:=hv.2.2.2.2.2.2.2.2.2.2.2.1
  rw [hk,show cW 10 82 = true from by kernel_rfl] at hr
  unfold bt at hr
  rw [if_pos rfl,sR] at hr
  exact hr
theorem LS (l:List GFact) (s:Int) (past:GSpan):aV (rY l s past 0) = bp (bp (df l 10 s) (dw l)) past:=by
  refine sA (cw _).1 (iJ _ _).1 fun d=>?_
  rw [(cw _).2.1,(iJ _ _).2,(iJ _ _).2]
  unfold rY
  rw [HF]
  constructor
  · rintro ⟨⟨i,hi,hd⟩,h0,h1⟩
    unfold lF at hd
    split at hd
    · unfold nC at hd
      rw [if_pos rfl,(iJ _ _).2,(iJ _ _).2] at hd
      obtain ⟨⟨⟨⟨⟨x,hx,hxd⟩,h2⟩,_⟩,h3⟩,_⟩:=hd
      obtain ⟨f,f1,f2,f3,f4,f5,f6⟩:=HK.1 hx
      exact ⟨⟨⟨⟨⟨x,zr.2 ⟨f,f1,f2,f3,f4,f6⟩,hxd⟩,h2⟩,h0,h1⟩,h3⟩,h0,h1⟩
    · exact absurd hd cQ
  · rintro ⟨⟨⟨⟨⟨x,hx,hxd⟩,h2⟩,_⟩,h3⟩,h0,h1⟩
    obtain ⟨f,f1,f2,f3,f4,f6⟩:=zr.1 hx
    obtain ⟨r1,r2⟩:=MR f2 f3
    refine ⟨⟨(f.Ref - 1).toNat,List.mem_range.2 (by omega), ?_⟩,h0,h1⟩
    have e:(((f.Ref - 1).toNat:Nat):Int)+1 = f.Ref:=by omega
    have hx':x∈eX (l.filter aU) s f.Ref:=HK.2 ⟨f,f1,f2,f3,f4,rfl,f6⟩
    rw [e]
    unfold lF
    rw [if_pos (List.length_pos_of_mem hx')]
    unfold nC
    rw [if_pos rfl,(iJ _ _).2,(iJ _ _).2]
    exact ⟨⟨⟨⟨⟨x,hx',hxd⟩,h2⟩,h0,h1⟩,h3⟩,h0,h1⟩
def tM (s r:Int) (d:List GSpan):List GPeriod:=d.map fun x=>GPeriod.mk s r x
theorem Ch (s r:Int) (d:List GSpan):(tM s r d).length = d.length:=List.length_map _
theorem AJ {T A:Type} (g:T→A):∀ l:List T,l.flatMap (fun x=>[g x]) = l.map g
  | []=>rfl
  | x :: r=>by rw [List.flatMap_cons,AJ g r]; rfl
theorem oh (rank:Int) (days:List GSpan) (s f:Int) (rd:GRounding) (cr:List GCredit) (se:List GIndex) (le:List GLet) (gr:List GGrant) (re:List GReduce) (out:List GPeriod) (h1:days.length≤1000000) (h2:out.length≤1000000000) :
    gN rank days s f rd cr se le gr re out = some (s,f,rd,cr,se,le,gr,re,out++tM s rank days):=by
  rw [vF]
  have:=mn days (fun i o=>cS rank days (days.length:Int) i s f rd.Mode rd.Unit cr se le gr re (out++o)) (fun d=>[GPeriod.mk s rank d]) 1 (fun _ _=>by simp) fun i o hi ho=>by
    show cS _ _ _ _ _ _ _ _ _ _ _ _ _ _ = cS _ _ _ _ _ _ _ _ _ _ _ _ _ _
    rw [kW]
    simp only [be hi,bA,cond_true,aC,Bool.or_true,bK hi,bc hi (by omega)]
    rw [im (by rw [List.length_append]; omega) (by rw [List.length_append]; omega),List.append_assoc]
  simp only [List.append_nil] at this
  rw [this,AJ,kW,bm]
  rfl
def kr:List (Int × Int):=[(6,2),(9,3),(7,4),(8,5),(10,6),(5,7)]
noncomputable def mN (l:List GFact) (x:GScheme) (past:GSpan) (p:Int × Int):List GPeriod :=
  if (dx p.1 x.Version.Credits).2 = true then tM x.State p.2 (jB l p.1 x.State past (dx p.1 x.Version.Credits).1) else []
theorem Am (l:List GFact) (x:GScheme) (past:GSpan) (p:Int × Int):(mN l x past p).length≤73050:=by
  unfold mN
  split
  · rw [Ch]; exact xM _ _ _ _ _
  · simp
noncomputable def qv (law:List GSegment) (x:GScheme) (past:GSpan):List GPeriod:=tM x.State 1 (bp (aV (gz law x.State 3)) past)
theorem uk (law:List GSegment) (x:GScheme) (past:GSpan):(qv law x past).length≤73050:=by
  unfold qv
  rw [Ch]
  exact di _ _
noncomputable def tw (l:List GFact) (law:List GSegment) (past:GSpan) (x:GScheme):List GPeriod:=qv law x past++kr.flatMap (mN l x past)
theorem A8 (l:List GFact) (law:List GSegment) (past:GSpan) (x:GScheme):(tw l law past x).length≤600000:=by
  have h1:=uk law x past
  have h2:=rX (mN l x past) 73050 kr fun p _=>Am _ _ _ _
  have:kr.length = 6:=rfl
  unfold tw
  rw [List.length_append]
  omega
def lE (x:GScheme):Prop:=x.Version.Credits.length≤1000∧∀ c∈x.Version.Credits,0≤c.Limit∧c.Limit≤1000000
theorem AM (k:Int):∀ l:List GCredit,(∀ c∈l,0≤c.Limit∧c.Limit≤1000000)→0≤(dx k l).1∧(dx k l).1≤1000000
  | [],_=>by simp [dx]
  | c :: r,h=>by
    rw [dx]
    split
    · exact h c (List.mem_cons_self)
    · exact AM k r fun d hd=>h d (List.mem_cons_of_mem _ hd)
def dv:List GAnon120:=[⟨6,2⟩,⟨9,3⟩,⟨7,4⟩,⟨8,5⟩,⟨10,6⟩,⟨5,7⟩]
theorem OU:li = some dv:=by rw [vZ]; rfl
theorem Ps:dv.map (fun t=>(t.kind,t.rank)) = kr:=rfl
theorem N5 (l:List GFact) (hl:l.length≤900) (law:List GSegment) (T:List GScheme) (n a:Int) (past:GSpan) (x:GScheme) (hx:lE x) (i:Nat) (hi:i < dv.length) (out:List GPeriod) (ho:out.length≤900000000) :
    aS l law T n a (dv.length:Int) (i:Int) past x.State x.Version.From x.Version.Rounding x.Version.Credits x.Version.Series x.Version.Lets x.Version.Grants x.Version.Reduces dv out =
    aS l law T n a (dv.length:Int) ((i+1:Nat):Int) past x.State x.Version.From x.Version.Rounding x.Version.Credits x.Version.Series x.Version.Lets x.Version.Grants x.Version.Reduces dv (out++mN l x past ((dv[i]).kind,(dv[i]).rank)):=by
  have h6:dv.length = 6:=rfl
  rw [jl]
  simp only [mZ]
  rw [be hi,cond_true,bA,aC,aC,bK hi,bc hi (by omega)]
  generalize dv[i] = t
  obtain ⟨c1,c2⟩:=AM t.kind _ hx.2
  rw [xg _ t.kind (by show x.Version.Credits.length≤_; have:=hx.1; omega),Option.bind_some]
  show (bif (!(dx t.kind x.Version.Credits).2) then _ else _) = _
  unfold mN
  cases hc:(dx t.kind x.Version.Credits).2 with
  | false=>rw [show (!false) = true from rfl,cond_true,if_neg (by simp),List.append_nil]
  | true =>
    have hs:=di (df l t.kind x.State) (dw l)
    have hs2:=di (bp (df l t.kind x.State) (dw l)) past
    rw [show (!true) = false from rfl,cond_false,AK l t.kind x.State (by omega),Option.bind_some,ic _ _ (by omega),Option.bind_some,if_pos rfl]
    show (bif (bif bn (dx t.kind x.Version.Credits).1 0 then _ else _) then (iz l x.State past (dx t.kind x.Version.Credits).1).bind _ else bif bn (dx t.kind x.Version.Credits).1 0 then (jT _ (dx t.kind x.Version.Credits).1).bind _ else _) = _
    generalize (dx t.kind x.Version.Credits).1 = lim at c1 c2
    have hd:=xM l t.kind x.State past lim
    by_cases h0:lim = 0
    · subst h0
      have e:bp (bp (df l t.kind x.State) (dw l)) past = jB l t.kind x.State past 0:=by
        unfold jB
        split
        · rename_i hk; rw [LS,hk]
        · unfold nC; rw [if_pos rfl]
      rw [Bq.2 rfl,cond_false,cond_false,cond_false,e,oh _ _ _ _ _ _ _ _ _ _ _ (by omega) (by omega),Option.bind_some]
    · rw [DX.2 h0,cond_true]
      by_cases hk:t.kind = 10
      · have e:aV (rY l x.State past lim) = jB l t.kind x.State past lim:=by unfold jB; rw [if_pos hk]
        rw [dn.2 hk,cond_true,v7 l hl x.State lim past (by omega) (by omega),Option.bind_some,e,oh _ _ _ _ _ _ _ _ _ _ _ (by omega) (by omega),Option.bind_some]
      · have e:gI lim (aV (bp (bp (df l t.kind x.State) (dw l)) past)) = jB l t.kind x.State past lim:=by unfold jB nC; rw [if_neg hk,if_neg h0]
        rw [lG.2 hk,cond_false,cond_true,rm _ _ (by omega) (by omega) (by omega),Option.bind_some,e,oh _ _ _ _ _ _ _ _ _ _ _ (by omega) (by omega),Option.bind_some]
theorem Nh (l:List GFact) (hl:l.length≤900) (law:List GSegment) (T:List GScheme) (n a:Int) (o1:List GPeriod) (ho:o1.length≤700000000) (past:GSpan) (x:GScheme) (hx:lE x) :
    aS l law T n a (dv.length:Int) 0 past x.State x.Version.From x.Version.Rounding x.Version.Credits x.Version.Series x.Version.Lets x.Version.Grants x.Version.Reduces dv o1 = aY l law T n (ac (a+1)) past (o1++kr.flatMap (mN l x past)):=by
  have h6:dv.length = 6:=rfl
  have:=mn dv (fun i o=>aS l law T n a (dv.length:Int) i past x.State x.Version.From x.Version.Rounding x.Version.Credits x.Version.Series x.Version.Lets x.Version.Grants x.Version.Reduces dv (o1++o)) (fun t=>mN l x past (t.kind,t.rank)) 73050 (fun t _=>Am _ _ _ _) fun i o hi hoo=>by
    show aS _ _ _ _ _ _ _ _ _ _ _ _ _ _ _ _ _ _ = _
    rw [N5 l hl law T n a past x hx i hi (o1++o) (by rw [List.length_append]; omega),List.append_assoc]
  simp only [List.append_nil] at this
  rw [this, ← Ps,List.flatMap_map,jl,bm,cond_false]
theorem Ns (l:List GFact) (hl:l.length≤900) (law:List GSegment) (hw:law.length≤100000) (schemes:List GScheme) (hn:schemes.length≤1000) (past:GSpan) (i:Nat) (hi:i < schemes.length) (hx:lE schemes[i]) (out:List GPeriod) (ho:out.length≤600000000) :
    aY l law schemes (schemes.length:Int) (i:Int) past out = aY l law schemes (schemes.length:Int) ((i+1:Nat):Int) past (out++tw l law past schemes[i]):=by
  have hu:=qe law schemes[i].State 3
  have hm:=(cw (gz law schemes[i].State 3)).2.2
  have hf:=uk law schemes[i] past
  have hc:=di (aV (gz law schemes[i].State 3)) past
  rw [kZ]
  simp only [be hi,bA,cond_true,aC,Bool.or_true,bK hi,bc hi (by omega)]
  rw [uB law _ _ (by omega),Option.bind_some,ic _ _ (by omega),Option.bind_some,oh _ _ _ _ _ _ _ _ _ _ _ (by omega) (by omega),Option.bind_some,OU,Option.bind_some]
  refine (Nh l hl law schemes (schemes.length:Int) (i:Int) (out++qv law schemes[i] past) (by rw [List.length_append]; omega) past schemes[i] hx).trans ?_
  rw [bc hi (by omega),List.append_assoc]
  rfl
noncomputable def kP (l:List GFact) (law:List GSegment) (schemes:List GScheme) (past:GSpan):List GPeriod:=schemes.flatMap (tw l law past)
theorem Jv (l:List GFact) (law:List GSegment) (schemes:List GScheme) (h:schemes.length≤1000) (past:GSpan):(kP l law schemes past).length≤600000000:=by
  have:=rX (tw l law past) 600000 schemes fun x _=>A8 _ _ _ _
  have h2:schemes.length*600000≤1000*600000:=Nat.mul_le_mul_right _ h
  unfold kP
  omega
theorem HB (l:List GFact) (hl:l.length≤900) (law:List GSegment) (hw:law.length≤100000) (schemes:List GScheme) (hn:schemes.length≤1000) (hx:∀ x∈schemes,lE x) (past:GSpan) :
    aY l law schemes (schemes.length:Int) 0 past [] = some (kP l law schemes past,0):=by
  refine (mn schemes (fun i out=>aY l law schemes (schemes.length:Int) i past out) (tw l law past) 600000 (fun x _=>A8 _ _ _ _) fun i o hi ho=>Ns l hl law hw schemes hn past i hi (hx _ (List.getElem_mem hi)) o (by
      have:i*600000≤1000*600000:=Nat.mul_le_mul_right _ (by omega)
      omega)).trans ?_
  show aY _ _ _ _ _ _ (kP l law schemes past) = _
  rw [kZ,bm]; rfl
theorem A5 (l:List GFact) (law:List GSegment) (schemes:List GScheme) (b i s r:Int) (out:List GPeriod) (hr:r≤100) (hr0:0≤r) (d:List GSpan) (h1:d.length≤1000000) (h2:out.length≤1000000000) :
    bg l law schemes b i s r 0 out d = bx l law schemes b i s (r+1) (out++tM s r d):=by
  have:=mn d (fun k o=>bg l law schemes b i s r k (out++o) d) (fun x=>[GPeriod.mk s r x]) 1 (fun _ _=>by simp) fun k o hk ho=>by
    show bg _ _ _ _ _ _ _ _ _ _ = bg _ _ _ _ _ _ _ _ _ _
    rw [km]
    simp only [be hk,bA,cond_true,aC,Bool.or_true,bK hk,bc hk (by omega)]
    rw [im (by rw [List.length_append]; omega) (by rw [List.length_append]; omega),List.append_assoc]
  simp only [List.append_nil] at this
  rw [this,AJ,km,bm,cond_false,ak (by omega) (by omega)]
  rfl
noncomputable def uF (l:List GFact) (law:List GSegment) (past:GSpan) (x:GScheme) (p:Int × Int):List GPeriod:=if p.2 = 1 then qv law x past else mN l x past p
theorem LL (l:List GFact) (law:List GSegment) (past:GSpan) (x:GScheme) (p:Int × Int):(uF l law past x p).length≤73050:=by
  unfold uF
  split
  · exact uk _ _ _
  · exact Am _ _ _ _
def wk:List (Int × Int):=(0,1) :: kr
theorem Oz (l:List GFact) (law:List GSegment) (past:GSpan) (x:GScheme):wk.flatMap (uF l law past x) = tw l law past x:=rfl
theorem KJ:cL 2 = some 6∧cL 3 = some 9∧cL 4 = some 7∧cL 5 = some 8∧cL 6 = some 10∧cL 7 = some 5:=by
  have st:∀ (r k v:Int) (j:Int),k≤14→cP k = some v→(v = r→j = k)→(v≠r→fy r (ac (k+1)) = some j)→fy r k = some j:=by
    intro r k v j h1 h2 h3 h4
    rw [wv,bG h1,cond_true,h2,Option.bind_some]
    by_cases e:v = r
    · rw [dn.2 e,h3 e]; rfl
    · rw [lG.2 e]; exact h4 e
  have rk:cP 1 = some 0∧cP 2 = some 0∧cP 3 = some 0∧cP 4 = some 0∧cP 5 = some 7∧cP 6 = some 2∧cP 7 = some 4∧cP 8 = some 5∧cP 9 = some 3∧cP 10 = some 6:=by
    refine ⟨?_, ?_, ?_, ?_, ?_, ?_, ?_, ?_, ?_, ?_⟩ <;> (rw [FS]; rfl)
  obtain ⟨k1,k2,k3,k4,k5,k6,k7,k8,k9,k10⟩:=rk
  have w:∀ n:Int,n≤20→0≤n→ac (n+1) = n+1:=fun n h h'=>ak (by omega) (by omega)
  refine ⟨?_, ?_, ?_, ?_, ?_, ?_⟩ <;> rw [Bm]
  · refine st 2 1 0 6 (by decide) k1 (by decide) fun _=>?_
    rw [w _ (by decide) (by decide)]
    refine st 2 2 0 6 (by decide) k2 (by decide) fun _=>?_
    rw [w _ (by decide) (by decide)]
    refine st 2 3 0 6 (by decide) k3 (by decide) fun _=>?_
    rw [w _ (by decide) (by decide)]
    refine st 2 4 0 6 (by decide) k4 (by decide) fun _=>?_
    rw [w _ (by decide) (by decide)]
    refine st 2 5 7 6 (by decide) k5 (by decide) fun _=>?_
    rw [w _ (by decide) (by decide)]
    exact st 2 6 2 6 (by decide) k6 (by decide) fun h=>absurd rfl h
  · refine st 3 1 0 9 (by decide) k1 (by decide) fun _=>?_
    rw [w _ (by decide) (by decide)]
    refine st 3 2 0 9 (by decide) k2 (by decide) fun _=>?_
    rw [w _ (by decide) (by decide)]
    refine st 3 3 0 9 (by decide) k3 (by decide) fun _=>?_
    rw [w _ (by decide) (by decide)]
    refine st 3 4 0 9 (by decide) k4 (by decide) fun _=>?_
    rw [w _ (by decide) (by decide)]
    refine st 3 5 7 9 (by decide) k5 (by decide) fun _=>?_
    rw [w _ (by decide) (by decide)]
    refine st 3 6 2 9 (by decide) k6 (by decide) fun _=>?_
    rw [w _ (by decide) (by decide)]
    refine st 3 7 4 9 (by decide) k7 (by decide) fun _=>?_
    rw [w _ (by decide) (by decide)]
    refine st 3 8 5 9 (by decide) k8 (by decide) fun _=>?_
    rw [w _ (by decide) (by decide)]
    exact st 3 9 3 9 (by decide) k9 (by decide) fun h=>absurd rfl h
  · refine st 4 1 0 7 (by decide) k1 (by decide) fun _=>?_
    rw [w _ (by decide) (by decide)]
    refine st 4 2 0 7 (by decide) k2 (by decide) fun _=>?_
    rw [w _ (by decide) (by decide)]
    refine st 4 3 0 7 (by decide) k3 (by decide) fun _=>?_
    rw [w _ (by decide) (by decide)]
    refine st 4 4 0 7 (by decide) k4 (by decide) fun _=>?_
    rw [w _ (by decide) (by decide)]
    refine st 4 5 7 7 (by decide) k5 (by decide) fun _=>?_
    rw [w _ (by decide) (by decide)]
    refine st 4 6 2 7 (by decide) k6 (by decide) fun _=>?_
    rw [w _ (by decide) (by decide)]
    exact st 4 7 4 7 (by decide) k7 (by decide) fun h=>absurd rfl h
  · refine st 5 1 0 8 (by decide) k1 (by decide) fun _=>?_
    rw [w _ (by decide) (by decide)]
    refine st 5 2 0 8 (by decide) k2 (by decide) fun _=>?_
    rw [w _ (by decide) (by decide)]
    refine st 5 3 0 8 (by decide) k3 (by decide) fun _=>?_
    rw [w _ (by decide) (by decide)]
    refine st 5 4 0 8 (by decide) k4 (by decide) fun _=>?_
    rw [w _ (by decide) (by decide)]
    refine st 5 5 7 8 (by decide) k5 (by decide) fun _=>?_
    rw [w _ (by decide) (by decide)]
    refine st 5 6 2 8 (by decide) k6 (by decide) fun _=>?_
    rw [w _ (by decide) (by decide)]
    refine st 5 7 4 8 (by decide) k7 (by decide) fun _=>?_
    rw [w _ (by decide) (by decide)]
    exact st 5 8 5 8 (by decide) k8 (by decide) fun h=>absurd rfl h
  · refine st 6 1 0 10 (by decide) k1 (by decide) fun _=>?_
    rw [w _ (by decide) (by decide)]
    refine st 6 2 0 10 (by decide) k2 (by decide) fun _=>?_
    rw [w _ (by decide) (by decide)]
    refine st 6 3 0 10 (by decide) k3 (by decide) fun _=>?_
    rw [w _ (by decide) (by decide)]
    refine st 6 4 0 10 (by decide) k4 (by decide) fun _=>?_
    rw [w _ (by decide) (by decide)]
    refine st 6 5 7 10 (by decide) k5 (by decide) fun _=>?_
    rw [w _ (by decide) (by decide)]
    refine st 6 6 2 10 (by decide) k6 (by decide) fun _=>?_
    rw [w _ (by decide) (by decide)]
    refine st 6 7 4 10 (by decide) k7 (by decide) fun _=>?_
    rw [w _ (by decide) (by decide)]
    refine st 6 8 5 10 (by decide) k8 (by decide) fun _=>?_
    rw [w _ (by decide) (by decide)]
    refine st 6 9 3 10 (by decide) k9 (by decide) fun _=>?_
    rw [w _ (by decide) (by decide)]
    exact st 6 10 6 10 (by decide) k10 (by decide) fun h=>absurd rfl h
  · refine st 7 1 0 5 (by decide) k1 (by decide) fun _=>?_
    rw [w _ (by decide) (by decide)]
    refine st 7 2 0 5 (by decide) k2 (by decide) fun _=>?_
    rw [w _ (by decide) (by decide)]
    refine st 7 3 0 5 (by decide) k3 (by decide) fun _=>?_
    rw [w _ (by decide) (by decide)]
    refine st 7 4 0 5 (by decide) k4 (by decide) fun _=>?_
    rw [w _ (by decide) (by decide)]
    exact st 7 5 7 5 (by decide) k5 (by decide) fun h=>absurd rfl h
theorem Mw (l:List GFact) (hl:l.length≤900) (law:List GSegment) (hw:law.length≤99000) (schemes:List GScheme) (b:Int) (i:Nat) (hi:i < schemes.length) (hx:lE schemes[i]) (out:List GPeriod) (ho:out.length≤900000000) (p:Int × Int)
    (hp:p.2 = 1∨p.2≠1∧cL p.2 = some p.1) (h1:0≤p.2) (h7:p.2≤7) :
    bx l law schemes b (i:Int) schemes[i].State p.2 out = bx l law schemes b (i:Int) schemes[i].State (p.2+1) (out++uF l law ⟨0,b⟩ schemes[i] p):=by
  rw [lx,bG h7,cond_true]
  unfold uF
  rcases hp with hp | ⟨hp,hk⟩
  · have hu:=qe law schemes[i].State 3
    have hm:=(cw (gz law schemes[i].State 3)).2.2
    have hc:=di (aV (gz law schemes[i].State 3)) ⟨0,b⟩
    rw [if_pos hp,dn.2 hp,cond_true,BS law _ _ (by omega),Option.bind_some,tk _ b 0 (by omega) (by omega) (by omega),Option.bind_some]
    have e:nC 0 (bp (aV (gz law schemes[i].State 3)) ⟨0,b⟩) = bp (aV (gz law schemes[i].State 3)) ⟨0,b⟩:=if_pos rfl
    rw [e,A5 _ _ _ _ _ _ _ _ (by omega) h1 _ (by omega) (by omega),hp]
    rfl
  · obtain ⟨c1,c2⟩:=AM p.1 _ hx.2
    rw [if_neg hp,lG.2 hp,cond_false,bA,be hi,aC,aC,bK hi,hk,Option.bind_some,BW _ _ (by have:=hx.1; omega),Option.bind_some]
    unfold mN
    cases hc:(dx p.1 schemes[i].Version.Credits).2 with
    | false =>
      rw [cond_false,A5 _ _ _ _ _ _ _ _ (by omega) h1 _ (by simp) (by omega),if_neg (by simp)]
      rfl
    | true =>
      have hd:=xM l p.1 schemes[i].State ⟨0,b⟩ (dx p.1 schemes[i].Version.Credits).1
      rw [cond_true,Option.bind_some,Ig l hl _ _ _ _ (by omega) c1,Option.bind_some,A5 _ _ _ _ _ _ _ _ (by omega) h1 _ (by omega) (by omega),if_pos rfl]
theorem N8:∀ (j:Nat) (h:j < wk.length),(wk[j]).2 = (j:Int)+1∧((wk[j]).2 = 1∨(wk[j]).2≠1∧cL (wk[j]).2 = some (wk[j]).1):=by
  intro j h
  have h7:wk.length = 7:=rfl
  obtain ⟨k2,k3,k4,k5,k6,k7⟩:=KJ
  have:j = 0∨j = 1∨j = 2∨j = 3∨j = 4∨j = 5∨j = 6:=by omega
  rcases this with e | e | e | e | e | e | e <;> subst e
  · exact ⟨rfl, .inl rfl⟩
  · exact ⟨rfl, .inr ⟨show (2:Int)≠1 by decide,k2⟩⟩
  · exact ⟨rfl, .inr ⟨show (3:Int)≠1 by decide,k3⟩⟩
  · exact ⟨rfl, .inr ⟨show (4:Int)≠1 by decide,k4⟩⟩
  · exact ⟨rfl, .inr ⟨show (5:Int)≠1 by decide,k5⟩⟩
  · exact ⟨rfl, .inr ⟨show (6:Int)≠1 by decide,k6⟩⟩
  · exact ⟨rfl, .inr ⟨show (7:Int)≠1 by decide,k7⟩⟩
theorem MZ (l:List GFact) (hl:l.length≤900) (law:List GSegment) (hw:law.length≤99000) (schemes:List GScheme) (hn:schemes.length≤1000) (b:Int) (i:Nat) (hi:i < schemes.length) (hx:lE schemes[i]) (out:List GPeriod) (ho:out.length≤600000000) :
    bS l law schemes b (i:Int) out = bS l law schemes b ((i+1:Nat):Int) (out++tw l law ⟨0,b⟩ schemes[i]):=by
  have h7:wk.length = 7:=rfl
  have:=mn wk (fun j o=>bx l law schemes b (i:Int) schemes[i].State (j+1) (out++o)) (uF l law ⟨0,b⟩ schemes[i]) 73050 (fun _ _=>LL _ _ _ _ _) fun j o hj hoo=>by
    obtain ⟨e1,e2⟩:=N8 j hj
    show bx l law schemes b (i:Int) schemes[i].State ((j:Int)+1) (out++o) = bx l law schemes b (i:Int) schemes[i].State (((j+1:Nat):Int)+1) (out++(o++uF l law ⟨0,b⟩ schemes[i] wk[j]))
    rw [← e1,Mw l hl law hw schemes b i hi hx (out++o) (by rw [List.length_append]; omega) (wk[j]) e2 (by omega) (by omega),List.append_assoc,e1]
    rfl
  rw [Oz] at this
  simp only [List.append_nil] at this
  rw [mm]
  simp only [be hi,bA,cond_true,aC,Bool.or_true,bK hi,bc hi (by omega)]
  refine Eq.trans this ?_
  rw [h7,lx,dB (by omega),cond_false,bc hi (by omega)]
theorem LU (l:List GFact) (hl:l.length≤900) (law:List GSegment) (hw:law.length≤99000) (schemes:List GScheme) (hn:schemes.length≤1000) (hx:∀ x∈schemes,lE x) (b:Int) :
    bS l law schemes b 0 [] = some (kP l law schemes ⟨0,b⟩,0):=by
  refine (mn schemes (fun i out=>bS l law schemes b i out) (tw l law ⟨0,b⟩) 600000 (fun x _=>A8 _ _ _ _) fun i o hi ho=>MZ l hl law hw schemes hn b i hi (hx _ (List.getElem_mem hi)) o (by
      have:i*600000≤1000*600000:=Nat.mul_le_mul_right _ (by omega)
      omega)).trans ?_
  show bS _ _ _ _ _ (kP l law schemes ⟨0,b⟩) = _
  rw [mm,bm]; rfl
def EE (schemes:List GScheme) (i:Nat):Bool:=(decide ((gD schemes i (zS .GScheme)).State < 0)||decide (6≤(gD schemes i (zS .GScheme)).State))||(decide (0 < i)&&decide ((gD schemes i (zS .GScheme)).State≤(gD schemes (i - 1) (zS .GScheme)).State))
theorem Bd (schemes:List GScheme) (hn:schemes.length≤1000) (i:Nat) (hi:i < schemes.length) (y n:Option (List GPeriod × Int)) :
    (bif aa ((i:Int) < (schemes.length:Int)) then gb (aa (0≤(i:Int)))<|gb (aa ((i:Int) < (schemes.length:Int)))<|gb ((!(aa (0 < (i:Int))&&((!(bif aa ((gD schemes ((i:Int)).toNat (zS .GScheme)).State < 0) then true else aa (6≤(gD schemes ((i:Int)).toNat (zS .GScheme)).State)))&&true)))||aa (0≤(ac ((i:Int) - 1)))) <|
      gb ((!(aa (0 < (i:Int))&&((!(bif aa ((gD schemes ((i:Int)).toNat (zS .GScheme)).State < 0) then true else aa (6≤(gD schemes ((i:Int)).toNat (zS .GScheme)).State)))&&true)))||aa ((ac ((i:Int) - 1)) < (schemes.length:Int))) <|
      bif (bif (bif aa ((gD schemes ((i:Int)).toNat (zS .GScheme)).State < 0) then true else aa (6≤(gD schemes ((i:Int)).toNat (zS .GScheme)).State)) then true else (bif aa (0 < (i:Int)) then aa ((gD schemes ((i:Int)).toNat (zS .GScheme)).State≤(gD schemes (ac ((i:Int) - 1)).toNat (zS .GScheme)).State) else false)) then y else n else none) =
    if EE schemes i = true then y else n:=by
  rw [be hi,cond_true,bA,aC,aC]
  have hw:0 < i→ac ((i:Int) - 1) = ((i - 1:Nat):Int):=fun h=>by rw [ak (by omega) (by omega)]; omega
  by_cases h0:0 < i
  · rw [hw h0,bA,bG (show ((i - 1:Nat):Int) < (schemes.length:Int) by omega),Bool.or_true,aC,aC,Int.toNat_natCast,Int.toNat_natCast,bG (show (0:Int) < (i:Int) by omega),cond_true,gf,gf]
    unfold EE
    rw [decide_eq_true h0,Bool.true_and]
    cases ((decide ((gD schemes i (zS .GScheme)).State < 0)||decide (6≤(gD schemes i (zS .GScheme)).State))||decide ((gD schemes i (zS .GScheme)).State≤(gD schemes (i - 1) (zS .GScheme)).State)) <;> rfl
  · rw [dB (show ¬ (0:Int) < (i:Int) by omega),Bool.false_and,Bool.not_false,Bool.true_or,Bool.true_or,aC,aC,Int.toNat_natCast,cond_false,gf,gf]
    unfold EE
    rw [decide_eq_false h0,Bool.false_and]
    cases ((decide ((gD schemes i (zS .GScheme)).State < 0)||decide (6≤(gD schemes i (zS .GScheme)).State))||false) <;> rfl
theorem Lm (l:List GFact) (law:List GSegment) (schemes:List GScheme) (b:Int) (hn:schemes.length≤1000) (y:List GPeriod × Int) (h1:aY l law schemes (schemes.length:Int) 0 ⟨0,b⟩ [] = some y) (h2:bS l law schemes b 0 [] = some y):∀ (n i:Nat),schemes.length = i+n →
    ∃ r,ct l law schemes b schemes (schemes.length:Int) (i:Int) = some r∧dW l law schemes b (i:Int) = some r∧(r = ([],1)∨r = y):=by
  intro n
  induction n with
  | zero =>
    intro i h
    have:i = schemes.length:=by omega
    subst this
    exact ⟨y,by rw [eu,bm]; exact h1,by rw [m7,bm]; exact h2, .inr rfl⟩
  | succ n ih =>
    intro i h
    have hi:i < schemes.length:=by omega
    obtain ⟨r,r1,r2,r3⟩:=ih (i+1) (by omega)
    have k1:ct l law schemes b schemes (schemes.length:Int) (i:Int) = if EE schemes i = true then some ([],1) else ct l law schemes b schemes (schemes.length:Int) ((i+1:Nat):Int):=by
      rw [← Bd schemes hn i hi,eu,be hi,cond_true,cond_true,bc hi (by omega)]
    have k2:dW l law schemes b (i:Int) = if EE schemes i = true then some ([],1) else dW l law schemes b ((i+1:Nat):Int):=by
      rw [← Bd schemes hn i hi,m7,be hi,cond_true,cond_true,bc hi (by omega)]
    rw [k1,k2]
    by_cases hc:EE schemes i = true
    · rw [if_pos hc,if_pos hc]; exact ⟨_,rfl,rfl, .inl rfl⟩
    · rw [if_neg hc,if_neg hc]; exact ⟨r,r1,r2,r3⟩
theorem I7 (l:List GFact) (hl:l.length≤900) (law:List GSegment) (hw:law.length≤99000) (schemes:List GScheme) (hn:schemes.length≤1000) (hx:∀ x∈schemes,lE x) (b:Int) :
    ∃ y,eT l law schemes b = some y∧ro l law schemes b = some y∧(y = (([]:List GPeriod),(1:Int))∨y = (kP l law schemes ⟨0,b⟩,(0:Int))):=by
  rw [oT,BP]
  cases hc:(bif aa (b < 0) then true else aa (73049 < b)) with
  | true=>exact ⟨_,rfl,rfl, .inl rfl⟩
  | false =>
    rw [cond_false,cond_false]
    have:=Lm l law schemes b hn _ (HB l hl law (by omega) schemes hn hx ⟨0,b⟩) (LU l hl law hw schemes hn hx b) schemes.length 0 (by omega)
    exact this
theorem AF (a:List GPeriod) (hn:a.length≤1000000000):lj a a = some true:=by
  rw [uA,Bq.2 rfl,cond_false]
  have:=(Bv a (fun i (_:Unit)=>bV a a i) (fun s _=>s) (fun _ _=>True) (fun i s hi _=>⟨?_,trivial⟩) () trivial).1
  · refine Eq.trans this ?_
    show bV _ _ _ = _
    rw [kp,bm]; rfl
  · show bV _ _ _ = bV _ _ _
    rw [kp]
    simp only [be hi,bA,cond_true,aC,Bool.or_true,bK hi,bc hi (by omega)]
    simp only [Ab,Bool.and_true,Bool.not_true,cond_false]
end Go.Ax
