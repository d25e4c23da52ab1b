import Derived.Test.YtgamnldjlncdlaaGreatZL165
set_option linter.all false
/- The claims with a rank; children; differences. -/
set_option maxRecDepth 100000
namespace Go.Ax
open Go.Proofs
def I3 (s r:Int) (p:ao):Bool:=(p.State == s)&&(bif (r == 0) then true else (p.Rank == r))
def qS (c:List ao) (s r:Int):List ab:=(c.filter (I3 s r)).map ao.Span
theorem WU (c:List ao) (s r:Int) (hc:c.length≤1000000):fixL (iG c s r) (([]:List ab),(0:Int)) = some (qS c s r):=by
  unfold qS
  rw [nD]
  refine qP c (fun x=>if I3 s r x = true then [x.Span] else []) (fun out i=>(out,(i:Int))) (fun out=>out) 1 (fun x _=>Pb _ _) (fun i hi out ho=>?_) (fun out ho=>?_)
  · show (gf c s r out (i:Int)).opt = _
    simp only [gf,oT]
    rw [dH hi,cond_true,aE (bQ hi),aE (fun _=>(bQ hi).1),aE (fun _=>(bQ hi).2),aE (bQ hi),eL c _ i hi,fh,cP (by omega)]
    cases h:I3 s r c[i] with
    | true=>unfold I3 at h; rw [h,cond_true,aE (pz (by omega))]; rfl
    | false=>unfold I3 at h; rw [h,cond_false]; simp
  · show (gf c s r out ((c.length:Nat):Int)).opt = _
    simp only [gf,oT]
    rw [cu,cond_false]
theorem PG (c:List ao) (s r:Int) (hc:c.length≤1000000) (hp:(qS c s r).length≤100000):sw c s r = some (cy (qS c s r)):=by
  show (fixL (iG c s r) (([]:List ab),(0:Int))).bind _ = _
  rw [WU c s r hc,Option.bind_some]
  show (ku (qS c s r)).opt = _
  simp only [ku,oT]
  rw [wW _ hp]
  rfl
theorem Jp {l:List ab} {lo:Int} (h:df lo l) (hc:∀ d, ¬ dD l d):l = []:=by
  cases l with
  | nil=>rfl
  | cons s r =>
    obtain ⟨h1,h2,h3,h4⟩:=h
    exact (hc s.From (cg.2 (.inl ⟨Int.le_refl _,h2⟩))).elim
theorem Yy (s:ab):da [] s = []:=Jp (fW _ _).1 fun d hd=>by
  rw [(fW _ _).2] at hd
  exact dp hd.1.1
theorem PO:cy [] = []:=Jp (cE _).1 fun d hd=>by
  rw [(cE _).2.1] at hd
  exact dp hd.1
theorem GL (s r r':Int) (hr:r'≠0):∀ d:List ab,((wn s r d).filter (I3 s r')).map ao.Span = if r = r' then d else []
  | []=>by simp [wn]
  | x :: t=>by
    have ih:=GL s r r' hr t
    have e:wn s r (x :: t) = ao.mk s r x :: wn s r t:=rfl
    have h0:(r' == 0) = false:=by simp [hr]
    rw [e,List.filter_cons]
    unfold I3 at ih ⊢
    rw [h0] at ih ⊢
    by_cases h:r = r'
    · subst h
      simp only [beq_self_eq_true,cond_false,Bool.and_true,if_true] at ih ⊢
      rw [List.map_cons,ih]
    · simp only [beq_self_eq_true,cond_false,Bool.true_and,if_neg h,beq_eq_false_iff_ne.2 h] at ih ⊢
      simpa using ih
noncomputable def mC (l:List ae) (x:ax) (past:ab) (p:Int × Int):List ab :=
  if (du p.1 x.Version.Credits).2 = true then jm l p.1 x.State past (du p.1 x.Version.Credits).1 else []
theorem Yk (l:List ae) (x:ax) (past:ab) (p:Int × Int):(mC l x past p).length≤73050:=by
  unfold mC
  split
  · exact FR _ _ _ _ _
  · simp
theorem Sw (l:List ae) (x:ax) (past:ab) (p:Int × Int) (r:Int) (hr:r≠0):qS (wM l x past p) x.State r = if p.2 = r then mC l x past p else []:=by
  unfold qS wM mC
  split
  · exact GL _ _ _ hr _
  · simp
theorem Yu (a b:List ao) (s r:Int):qS (a++b) s r = qS a s r++qS b s r:=by
  unfold qS
  rw [List.filter_append,List.map_append]
theorem Mx (s r:Int) (g:Int × Int→List ao):∀ l:List (Int × Int),qS (l.flatMap g) s r = l.flatMap fun p=>qS (g p) s r
  | []=>rfl
  | x :: t=>by rw [List.flatMap_cons,Yu,Mx s r g t,List.flatMap_cons]
theorem adC (l:List ae) (x:ax) (past:ab) (p:Int × Int) (hp:p∈kr):qS (md l [] past x) x.State p.2 = mC l x past p:=by
  have hf:vI [] x past = []:=by
    unfold vI
    rw [show pN [] x.State 3 = [] from rfl,PO,Yy]
    rfl
  unfold md
  rw [hf,List.nil_append,Mx]
  have key:∀ r:Int,r≠0→(fun q=>qS (wM l x past q) x.State r) = fun q:Int × Int=>if q.2 = r then mC l x past q else []:=fun r hr=>by
    funext q
    exact Sw l x past q r hr
  have:p = (6,2)∨p = (9,3)∨p = (7,4)∨p = (8,5)∨p = (10,6)∨p = (5,7):=by simpa [kr] using hp
  rcases this with e | e | e | e | e | e <;> subst e <;> rw [key _ (by decide)] <;> simp [kr]
theorem QC (l:List ae) (hl:l.length≤1000) (day:Int):∃ r,tu l day = some r∧m7 r∧r.length≤l.length∧∀ f∈l,cr f = true→f.Kind = 10→f.Span.From < day→f.Ref∈r:=by
  have hf:=Mo l
  have key:∀ (n i:Nat) (out:List Int),(l.filter cr).length = i+n→out.length≤i→m7 out →
      ∃ r,fixL (jd day (l.filter cr)) (out,(i:Int)) = some r∧m7 r∧r.length≤(l.filter cr).length∧(∀ x∈out,x∈r)∧∀ f∈(l.filter cr).drop i,f.Kind = 10→f.Span.From < day→f.Ref∈r:=by
    intro n
    induction n with
    | zero =>
      intro i out h ho ha
      have:i = (l.filter cr).length:=by omega
      subst this
      refine ⟨out, ?_,ha,ho,fun x hx=>hx,fun f hf=>?_⟩
      · rw [bS]
        show ((gJ day (l.filter cr) out (((l.filter cr).length:Nat):Int)).opt).bind _ = _
        simp only [gJ,oT]
        rw [cu,cond_false]
        rfl
      · rw [List.drop_length] at hf; cases hf
    | succ n ih =>
      intro i out h ho ha
      have hi:i < (l.filter cr).length:=by omega
      rw [bS]
      show ∃ r,((gJ day (l.filter cr) out (i:Int)).opt).bind _ = some r∧_
      simp only [gJ,oT]
      rw [dH hi,cond_true,aE (bQ hi),aE (fun _=>(bQ hi).1),aE (fun _=>(bQ hi).2),aE (bQ hi),fX (l.filter cr) _ i hi,fh,cP (by omega),List.drop_eq_getElem_cons hi]
      cases hc:(((l.filter cr)[i]).Kind == 10&&decide (((l.filter cr)[i]).Span.From < day)) with
      | true =>
        obtain ⟨r1,k1,k2,k3,k4⟩:=Av out ((l.filter cr)[i]).Ref (by omega) ha
        rw [cond_true,k1,Option.bind_some,Option.bind_some]
        obtain ⟨r,e1,e2,e3,e4,e5⟩:=ih (i+1) r1 (by omega) (by omega) k2
        refine ⟨r,e1,e2,e3,fun x hx=>e4 x ((k3 x).2 (.inl hx)),fun f hf hk hd=>?_⟩
        rcases List.mem_cons.1 hf with rfl | hf
        · exact e4 _ ((k3 _).2 (.inr rfl))
        · exact e5 f hf hk hd
      | false =>
        rw [cond_false,Option.bind_some]
        obtain ⟨r,e1,e2,e3,e4,e5⟩:=ih (i+1) out (by omega) (by omega) ha
        refine ⟨r,e1,e2,e3,e4,fun f hf hk hd=>?_⟩
        rcases List.mem_cons.1 hf with rfl | hf
        · rw [hk,decide_eq_true hd] at hc; cases hc
        · exact e5 f hf hk hd
  obtain ⟨r,e1,e2,e3,_,e5⟩:=key (l.filter cr).length 0 [] (by omega) (by simp) List.Pairwise.nil
  refine ⟨r, ?_,e2,by omega,fun f hf hc hk hd=>e5 f (by rw [List.drop_zero]; exact List.mem_filter.2 ⟨hf,hc⟩) hk hd⟩
  show (kW l day).opt = _
  simp only [kW,oT]
  rw [qH l (by omega),Option.bind_some]
  show (fixL (jd day (l.filter cr)) (([]:List Int),(0:Int))).bind _ = _
  rw [show (0:Int) = ((0:Nat):Int) from rfl,e1,Option.bind_some]
  rfl
theorem Ok (a b:List ab) (ha:a.length≤100000) (hb:b.length≤100000) (h:∀ d,dD a d→dD b d):wE a b = some []:=by
  obtain ⟨r,h1,h2,h3⟩:=pC a b 3 ha hb rfl
  have e:r = []:=Jp h2 fun d hd=>by
    rw [h3] at hd
    have h4:=hd.1
    cases ha:jh a d with
    | true =>
      have hb:=jM.2 (h d (jM.1 ha))
      rw [ha,hb] at h4
      simp [l5] at h4
    | false =>
      rw [ha] at h4
      simp [l5] at h4
  show (iI a b 3).bind _ = _
  rw [h1,Option.bind_some,e]
  rfl
theorem Yl (b:Int) (a:List ae) (c:List ao) (k:Int) (s all:List ab) (x:az) (hl:x.Credits.length≤1000000):∀ (n i:Nat) (lim:Int) (ok:Bool),x.Credits.length = i+n →
    fixL (cZ b a c k s all x) (k,lim,ok,(i:Int)) = some (k,(if ok = true then (lim,ok) else if (du k (x.Credits.drop i)).2 = true then du k (x.Credits.drop i) else (lim,false)).1,(if ok = true then (lim,ok) else if (du k (x.Credits.drop i)).2 = true then du k (x.Credits.drop i) else (lim,false)).2):=by
  intro n
  induction n with
  | zero =>
    intro i lim ok h
    have:i = x.Credits.length:=by omega
    subst this
    rw [bS]
    show ((dW b a c k s all lim ok ((x.Credits.length:Nat):Int) x).opt).bind _ = _
    simp only [dW,oT]
    rw [cu,cond_false,List.drop_length]
    cases ok <;> rfl
  | succ n ih =>
    intro i lim ok h
    have hi:i < x.Credits.length:=by omega
    rw [bS]
    show ((dW b a c k s all lim ok (i:Int) x).opt).bind _ = _
    simp only [dW,oT]
    rw [dH hi,cond_true,aE (bQ hi),eL x.Credits _ i hi,cP (by omega),List.drop_eq_getElem_cons hi,du]
    cases ok with
    | true =>
      rw [show (bif x.Credits[i].Kind == k then !true else false) = false by cases (x.Credits[i].Kind == k) <;> rfl,cond_false,Option.bind_some]
      show fixL (cZ b a c k s all x) (k,lim,true,((i+1:Nat):Int)) = _
      rw [ih (i+1) lim true (by omega)]
      rfl
    | false =>
      by_cases hk:x.Credits[i].Kind = k
      · rw [show (x.Credits[i].Kind == k) = true by simp [hk],show (bif true then !false else false) = true from rfl,cond_true,aE (bQ hi),Option.bind_some,if_pos hk]
        show fixL (cZ b a c k s all x) (k,x.Credits[i].Limit,true,((i+1:Nat):Int)) = _
        rw [ih (i+1) _ true (by omega)]
        rfl
      · rw [show (x.Credits[i].Kind == k) = false by simp [hk],cond_false,cond_false,Option.bind_some,if_neg hk]
        show fixL (cZ b a c k s all x) (k,lim,false,((i+1:Nat):Int)) = _
        rw [ih (i+1) lim false (by omega)]
theorem MO {k:Int}:∀ {l:List ap},(du k l).2 = false→du k l = (0,false)
  | [],_=>rfl
  | c :: r,h=>by
    rw [du] at h ⊢
    split at h
    · cases h
    · rename_i hk; rw [if_neg hk]; exact MO h
end Go.Ax
