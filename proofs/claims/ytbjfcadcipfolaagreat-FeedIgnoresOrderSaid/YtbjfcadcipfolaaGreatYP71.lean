import Derived.Test.YtbjfcadcipfolaaGreatYP69
set_option linter.all false
/- The facts of the documents that count: both texts give the same. -/
set_option maxRecDepth 100000
namespace Go.Ax
def fG (K:ay):List GDocument:=(List.range 6).flatMap fun s:Nat=>eZ K (s:Int)
theorem KH {K:ay} (hK:bL K) (s:Int):∀ (k n:Nat) (prev:Int), ∀ d∈gE K s k n prev,bT d = true∧kA d
 | 0,_,_,d,hd=>by cases hd
 | k+1,n,prev,d,hd=>by
  unfold gE at hd
  split at hd
  ·cases hd
  ·next b hb =>
   split at hd
   ·rcases List.mem_cons.1 hd with rfl | hd
    ·obtain ⟨h1,h2,_⟩:=hK _ _ _ hb
     exact ⟨((k7 h1).1 h2).2.2.2.2,Bd h1⟩
    ·exact KH hK s k (n+1) _ d hd
   ·cases hd
theorem Bn {K:ay} (hK:bL K) (s:Int):∀ d∈eZ K s,bT d = true∧kA d:=KH hK s 1000 1 0
theorem tN (K:ay) (s:Int):(eZ K s).length≤1000:=JS K s 1000 1 0
theorem wI {d:GDocument} (h:bT d = true∧kA d):d.Body.length≤43:=yp h.2.1 (ez.1 h.1).2.2.2
theorem Qp {d:GDocument} (h:bT d = true∧kA d) (hk:d.Kind = 1):(lq d.Body).2 = true:=by
 have hb:=(ez.1 h.1).2.2.2
 rw [hk] at hb
 cases hf:(lq d.Body).2 with
 | true=>rfl
 | false =>
  unfold lI at hb
  rw [hf] at hb
  simp at hb
theorem Oo {d:GDocument} (h:bT d = true∧kA d) (hk:d.Kind = 2):(jS d.Body).2 = true:=by
 have hb:=(ez.1 h.1).2.2.2
 rw [hk] at hb
 cases hf:(jS d.Body).2 with
 | true=>rfl
 | false =>
  unfold lI at hb
  rw [hf] at hb
  simp at hb
def cM (l:List GDocument):List GFact:=(l.filter fun d=>ak d.Kind 1).map fun d=>(lq d.Body).1
def cq (l:List GDocument):List GClaim:=(l.filter fun d=>ak d.Kind 2).map fun d=>(jS d.Body).1
theorem A0 (a b:List GDocument):cM (a++b) = cM a++cM b:=by unfold cM;rw [List.filter_append,List.map_append]
theorem sF (a b:List GDocument):cq (a++b) = cq a++cq b:=by unfold cq;rw [List.filter_append,List.map_append]
theorem mj (l:List GDocument):(cM l).length≤l.length:=by unfold cM;rw [List.length_map];exact List.length_filter_le _ _
theorem oF (l:List GDocument):(cq l).length≤l.length:=by unfold cq;rw [List.length_map];exact List.length_filter_le _ _
theorem B5 {T A:Type} (p:T→Bool) (g:T→A):∀ (m:List T) (o:List A),m.foldl (fun o x=>o++if p x = true then [g x] else []) o = o++(m.filter p).map g
 | [],o=>by simp
 | x :: m,o=>by
  rw [List.foldl_cons,B5 p g m,List.filter_cons]
  split <;> simp
def mT (K:ay) (n:Nat):List GDocument:=(List.range n).flatMap fun s:Nat=>eZ K (s:Int)
theorem uc (K:ay) (n:Nat):mT K (n+1) = mT K n++eZ K (n:Int):=by
 unfold mT
 rw [List.range_succ,List.flatMap_append,List.flatMap_cons,List.flatMap_nil,List.append_nil]
theorem iE (K:ay):∀ n:Nat,(mT K n).length≤1000*n
 | 0=>by simp [mT]
 | n+1=>by
  rw [uc,List.length_append]
  have:=iE K n
  have:=tN K (n:Int)
  omega
theorem Lb {K:ay} (hK:bL K) (n:Nat):∀ d∈mT K n,bT d = true∧kA d:=fun d hd=>by
 obtain ⟨s,_,h⟩:=List.mem_flatMap.1 hd
 exact Bn hK (s:Int) d h
theorem JL {K:ay} {ks vs} (hK:bL K) {s:Nat} (hs:s < 6) (o0:List GFact) (ho:o0.length≤10000) :
  bh (s:Int) ((eZ K (s:Int)).length:Int) 0 o0 (eZ K (s:Int)) ks vs = dQ ((s+1:Nat):Int) (o0++cM (eZ K (s:Int))) ks vs:=by
 have hn:=tN K (s:Int)
 have hof:=Bn hK (s:Int)
 generalize eZ K (s:Int) = D at *
 have loop:=(Dj D (fun i o=>bh (s:Int) (D.length:Int) i o D ks vs) (fun o d=>o++if ak d.Kind 1 = true then [(lq d.Body).1] else []) (fun i o=>o.length≤10000+i) (fun i o hi ho=>⟨by
   show bh _ _ _ _ _ _ _ = bh _ _ _ _ _ _ _
   have hd:=hof _ (List.getElem_mem hi)
   have hbl:=wI hd
   rw [jX]
   simp only [cA hi,bu,cond_true,an,Bool.or_true,cd hi,bW hi (by omega)]
   rw [qW hd.2.1 (by omega),Option.bind_some,cc]
   cases hk:ak D[i].Kind 1 with
   | true=>rw [Qp hd (aY.1 hk),Bool.and_self,cond_true,ab (by omega),ab (by omega),if_pos rfl]
   | false=>rw [Bool.and_false,cond_false,if_neg (by simp),List.append_nil],by split <;> simp <;> omega⟩) o0 (by omega)).1
 refine Eq.trans loop ?_
 show bh _ _ _ _ _ _ _ = _
 rw [jX,cV,cond_false,aA (by omega) (by omega),B5 (fun d:GDocument=>ak d.Kind 1)]
 rfl
theorem vD {K:ay} {ks vs} (hK:bL K) (h:bI K ks vs):∀ (k n:Nat),n+k = 6→dQ (n:Int) (cM (mT K n)) ks vs = some (dK (cM (fG K)),ks,vs)
 | 0,n,hn=>by
  have h1:=mj (mT K n)
  have h2:=iE K n
  rw [lV,aX (by omega),cond_false,BX _ _ (by omega) (by simp),Option.bind_some,List.append_nil,show n = 6 by omega]
  rfl
 | k+1,n,hn=>by
  have h1:=mj (mT K n)
  have h2:=iE K n
  rw [lV,aT (by omega),cond_true,gg hK h,Option.bind_some]
  dsimp only
  rw [JL hK (by omega) _ (by omega), ← A0, ← uc]
  exact vD hK h k (n+1) (by omega)
theorem jt {K:ay} {ks vs} (hK:bL K) (h:bI K ks vs):gr ks vs = some (dK (cM (fG K)),ks,vs):=by
 rw [xZ]
 exact vD hK h 6 0 rfl
theorem A9 {K:ay} {L:List Kd} (hK:bL K) (h:fe K L) (hl:L.length≤100000):∀ (k n:Nat),n+k = 6→gw ⟨L⟩ (n:Int) (mT K n) = some (fG K)∧eC (n:Int) ⟨L⟩ (mT K n) = some (⟨L⟩,fG K)
 | 0,n,hn=>by
  rw [ml,km,aX (by omega),cond_false,cond_false,show n = 6 by omega]
  exact ⟨rfl,rfl⟩
 | k+1,n,hn=>by
  have h2:=iE K n
  have h3:=tN K (n:Int)
  obtain ⟨d1,d2⟩:=ro hK h (by omega) (n:Int)
  obtain ⟨i1,i2⟩:=A9 hK h hl k (n+1) (by omega)
  rw [uc,show ((n+1:Nat):Int) = (n:Int)+1 by omega] at i1 i2
  refine ⟨?_, ?_⟩
  ·rw [ml,aT (by omega),cond_true,d2,Option.bind_some,ab (vO (by omega) (by omega)),ab (by omega),aA (by omega) (by omega)]
   exact i1
  ·rw [km,aT (by omega),cond_true,d1,Option.bind_some]
   dsimp only
   rw [ab (vO (by omega) (by omega)),ab (by omega),aA (by omega) (by omega)]
   exact i2
theorem oN {K:ay} {L:List Kd} (hK:bL K) (h:fe K L) (hl:L.length≤100000):nY ⟨L⟩ = some (fG K)∧lc ⟨L⟩ = some (⟨L⟩,fG K):=by
 rw [yK,vK]
 exact A9 hK h hl 6 0 rfl
theorem Qm (l:List GFact) (x:GFact):dK (dK l++[x]) = dK (l++[x]) :=
 (j5 (dK l++[x])).uniq (j5 (l++[x])) fun f=>wO (j5 l) f
theorem u7 {K:ay} {L:List Kd} (hK:bL K) (h:fe K L) (hl:L.length≤100000):l6 ⟨L⟩ = some (dK (cM (fG K))):=by
 rw [w3,(oN hK h hl).1,Option.bind_some]
 have hof:=Lb hK 6
 have hlen:=iE K 6
 change ∀ d∈fG K,_ at hof
 change (fG K).length≤_ at hlen
 generalize fG K = D at *
 have key:∀ (m i:Nat),D.length = i+m→dw (i:Int) D (dK (cM (D.take i))) = some (dK (cM D)):=by
  intro m
  induction m with
  | zero =>
   intro i hi
   have:i = D.length:=by omega
   subst this
   rw [kf,cV,cond_false,List.take_length]
  | succ m ih =>
   intro i hi
   have hlt:i < D.length:=by omega
   have hd:=hof _ (List.getElem_mem hlt)
   have hbl:=wI hd
   have ih':=ih (i+1) (by omega)
   have ht:D.take (i+1) = D.take i++[D[i]]:=(List.take_append_getElem hlt).symm
   have h1:=iH (cM (D.take i))
   have h2:=mj (D.take i)
   rw [List.length_take] at h2
   rw [ht,A0] at ih'
   rw [kf]
   simp only [cA hlt,bu,cond_true,an,Bool.or_true,cd hlt,bW hlt (by omega)]
   cases hk:ak D[i].Kind 1 with
   | true =>
    have e1:cM [D[i]] = [(lq D[i].Body).1]:=by unfold cM;rw [List.filter_cons,if_pos hk];rfl
    rw [e1] at ih'
    rw [cond_true,vh hd.2.1 (by omega),Option.bind_some,Cj _ _ (by omega) (by simp),Option.bind_some,Qm]
    exact ih'
   | false =>
    have e1:cM [D[i]] = []:=by unfold cM;rw [List.filter_cons,if_neg (by rw [hk];simp)];rfl
    rw [e1,List.append_nil] at ih'
    rw [cond_false]
    exact ih'
 exact key D.length 0 (by omega)
theorem GB (a b:GClaim):og a b = some (df a b):=by
 rw [yk]
 have step:∀ (i:Nat) (x y:List Int) (hi:i < 6),x.length = 6→y.length = 6→ck (i:Int) x y = bif aV (gD x i 0) (gD y i 0) then some (aa (gD x i 0 < gD y i 0)) else ck ((i+1:Nat):Int) x y:=by
  intro i x y hi h1 h2
  rw [lX,aT (by omega),cond_true,ab h1,bu,an,an,ab h2,an,an,ab h1,an,an,ab h2,an,an,Int.toNat_natCast,aA (by omega) (by omega)]
  rfl
 have last:∀ x y:List Int,ck 6 x y = some false:=fun x y=>by rw [lX];rfl
 obtain ⟨a1,a2,a3,a4,a5,a6⟩:=a
 obtain ⟨b1,b2,b3,b4,b5,b6⟩:=b
 have one:∀ (u v:Int) (r:Option Bool) (t:Bool),r = some t→(bif aV u v then some (aa (u < v)) else r) = some (aa (u < v)||(ak u v&&t)):=by
  intro u v r t hr
  by_cases h:u = v
  ·subst h;rw [bQ.2 rfl,cond_false,aX (by omega),gn,Bool.false_or,Bool.true_and];exact hr
  ·rw [bS.2 h,cond_true,eF.2 h,Bool.false_and,Bool.or_false]
 have s0:=step 0 [a1,a2,a6,a3,a4,a5] [b1,b2,b6,b3,b4,b5] (by omega) rfl rfl
 have s1:=step 1 [a1,a2,a6,a3,a4,a5] [b1,b2,b6,b3,b4,b5] (by omega) rfl rfl
 have s2:=step 2 [a1,a2,a6,a3,a4,a5] [b1,b2,b6,b3,b4,b5] (by omega) rfl rfl
 have s3:=step 3 [a1,a2,a6,a3,a4,a5] [b1,b2,b6,b3,b4,b5] (by omega) rfl rfl
 have s4:=step 4 [a1,a2,a6,a3,a4,a5] [b1,b2,b6,b3,b4,b5] (by omega) rfl rfl
 have s5:=step 5 [a1,a2,a6,a3,a4,a5] [b1,b2,b6,b3,b4,b5] (by omega) rfl rfl
 have t5:ck ((5:Nat):Int) [a1,a2,a6,a3,a4,a5] [b1,b2,b6,b3,b4,b5] = some (aa (a5 < b5)||(ak a5 b5&&false)):=s5.trans (one a5 b5 _ _ (last _ _))
 rw [Bool.and_false,Bool.or_false] at t5
 have t4:=s4.trans (one a4 b4 _ _ t5)
 have t3:=s3.trans (one a3 b3 _ _ t4)
 have t2:=s2.trans (one a6 b6 _ _ t3)
 have t1:=s1.trans (one a2 b2 _ _ t2)
 exact s0.trans (one a1 b1 _ _ t1)
end Go.Ax
set_option linter.all false
/- The claims of the documents that count: both texts give the same;the laws of facts and of orders. -/
set_option maxRecDepth 100000
namespace Go.Ax
def cF (c:GClaim):List Int:=[c.Issuer,c.Number,c.Day,c.Person,c.Benefit,c.Ref]
theorem QM {a b:GClaim} (h:cF a = cF b):a = b:=by
 cases a
 cases b
 unfold cF at h
 simp only [List.cons.injEq] at h
 obtain ⟨h1,h2,h3,h4,h5,h6,_⟩:=h
 subst h1 h2 h3 h4 h5 h6
 rfl
theorem rZ (x y:Int) (a b:List Int):(aa (x < y)||(ak x y&&!(bN b a))) = !(bN (y :: b) (x :: a)):=by
 show _ = !(aa (y < x)||(ak y x&&bN b a))
 rcases Int.lt_trichotomy x y with h | h | h
 ·rw [aT h,aX (by omega),eF.2 (by omega:y≠x)];rfl
 ·rw [aX (by omega),aX (by omega),aY.2 h,aY.2 h.symm];simp
 ·rw [aX (by omega),aT h,eF.2 (by omega:x≠y)];rfl
theorem Dx (a b:GClaim):df a b = !(bN (cF b) (cF a)):=by
 unfold df cF
 have e6:aa (a.Ref < b.Ref) = !(bN [b.Ref] [a.Ref]):=by
  rw [← rZ]
  show _ = (aa (a.Ref < b.Ref)||(ak a.Ref b.Ref&&!true))
  simp
 rw [e6,rZ,rZ,rZ,rZ,rZ]
def l7 (a b:GClaim):Prop:=df a b = true
theorem zZ {a b:GClaim}:l7 a b↔bN (cF b) (cF a) = false:=by
 unfold l7
 rw [Dx]
 cases bN (cF b) (cF a) <;> simp
theorem rm (a:GClaim):¬ l7 a a:=fun h=>by rw [zZ,jr] at h;cases h
theorem qD {a b c:GClaim} (h:l7 a b) (h':l7 b c):l7 a c:=by
 rw [zZ] at *
 obtain ⟨h1,h2⟩:=uf.1 h
 obtain ⟨h3,h4⟩:=uf.1 h'
 refine uf.2 ⟨nm h1 h3,fun e=>?_⟩
 rw [e] at h3
 exact h2 (mS h3 h1)
theorem FN (a b:GClaim):l7 a b∨a = b∨l7 b a:=by
 rw [zZ,zZ]
 cases h1:bN (cF b) (cF a) with
 | false=>exact .inl rfl
 | true=>cases h2:bN (cF a) (cF b) with
  | false=>exact .inr (.inr rfl)
  | true=>exact .inr (.inl (QM (mS h2 h1)))
theorem N9 {a b:GClaim} (h:l7 a b):¬ l7 b a:=fun h'=>rm a (qD h h')
def uP (l:List GClaim):Prop:=l.Pairwise l7
theorem NX {a b:List GClaim} (ha:uP a) (hb:uP b) (h:∀ x,x∈a↔x∈b):a = b:=by
 have nd:∀ {l:List GClaim},uP l→l.Nodup:=fun hl=>by
  rw [List.nodup_iff_pairwise_ne]
  exact hl.imp fun hxy e=>by subst e;exact rm _ hxy
 exact List.Perm.eq_of_pairwise (le:=l7) (fun x y _ _ h1 h2=>absurd h2 (N9 h1)) ha hb ((List.perm_ext_iff_of_nodup (nd ha) (nd hb)).2 h)
def CM (a b:GClaim):Bool:=(ak a.Issuer b.Issuer)&&((ak a.Number b.Number)&&((ak a.Person b.Person)&&((ak a.Benefit b.Benefit)&&((ak a.Ref b.Ref)&&((ak a.Day b.Day)&&true)))))
theorem zU {a b:GClaim}:CM a b = true↔a = b:=by
 unfold CM
 simp only [Bool.and_eq_true,aY,and_true]
 constructor
 ·rintro ⟨h1,h2,h3,h4,h5,h6⟩
  cases a
  cases b
  simp only at h1 h2 h3 h4 h5 h6
  subst h1 h2 h3 h4 h5 h6
  rfl
 ·rintro rfl
  exact ⟨rfl,rfl,rfl,rfl,rfl,rfl⟩
theorem LW {a b:GClaim}:CM a b = false↔a≠b:=by
 rw [Bool.eq_false_iff]
 exact not_congr zU
def Oh (l:List GClaim) (c:GClaim) (r:List GClaim):Prop:=uP r∧(∀ x,x∈r↔x∈l∨x = c)∧r.length≤l.length+1
theorem Lh {p s:List GClaim} {c:GClaim} (h:uP (p++s)) (hp:∀ g∈p,l7 g c) (hs:∀ g∈s,l7 c g):Oh (p++s) c (p++c :: s):=by
 obtain ⟨h1,h2,h3⟩:=List.pairwise_append.1 h
 refine ⟨List.pairwise_append.2 ⟨h1,List.pairwise_cons.2 ⟨hs,h2⟩,fun x hx y hy=>?_⟩,fun x=>?_,by simp;omega⟩
 ·rcases List.mem_cons.1 hy with rfl | hy
  ·exact hp x hx
  ·exact h3 x hx y hy
 ·simp only [List.mem_append,List.mem_cons]
  constructor
  ·rintro (h | h | h)
   ·exact .inl (.inl h)
   ·exact .inr h
   ·exact .inl (.inr h)
  ·rintro ((h | h) | h)
   ·exact .inl h
   ·exact .inr (.inr h)
   ·exact .inr (.inl h)
theorem HN (l:List GClaim) (c:GClaim) (hl:uP l) (hn:l.length≤900000):∀ (n:Nat) (p s:List GClaim),l = p++s→p.length = n→(∀ g∈s,l7 c g)→En (Oh l c) (gQ l (n:Int) c)
 | 0,p,s,hps,hp,hs=>by
  have hp0:p = []:=List.eq_nil_of_length_eq_zero hp
  have ins:=G8 hps 48 (by omega) (by omega) c fun o=>some o
  rw [hp] at ins
  have hd:aa ((0:Int) < ((0:Nat):Int)) = false:=aX (by omega)
  rw [nc,hd]
  simp only [Bool.false_and,Bool.not_false,Bool.true_or,an,cond_false]
  refine ⟨_,ins, ?_⟩
  rw [hps]
  exact Lh (hps ▸ hl) (by rw [hp0];simp) hs
 | n+1,p,s,hps,hp,hs=>by
  obtain ⟨p',q,hq⟩:∃ p' q,p = p'++[q]:=⟨p.dropLast,p.getLast (by intro e;rw [e] at hp;simp at hp),(List.dropLast_concat_getLast _).symm⟩
  have hp':p'.length = n:=by rw [hq] at hp;simpa using hp
  have hout:l = p'++q :: s:=by rw [hps,hq];simp
  have hlen:n < l.length:=by rw [hout,List.length_append,List.length_cons];omega
  have hget:gD l ((n:Int)).toNat (zS .GClaim) = q:=by rw [cd hlen];simp [hout, ← hp']
  have hbef:∀ g∈p',l7 g q:=by
   have h:=hl
   rw [hout] at h
   exact fun g hg=>(List.pairwise_append.1 h).2.2 g hg q (by simp)
  have e:ac (((n+1:Nat):Int) - 1) = (n:Int):=by rw [aA (by omega) (by omega)];omega
  have hd:aa ((0:Int) < ((n+1:Nat):Int)) = true:=aT (by omega)
  have ins:=G8 hps 48 (by omega) (by omega) c fun o=>some o
  rw [hp] at ins
  rw [nc,e,hd,hget,bu,cA hlen,GB]
  simp only [Bool.or_true,an,cond_true,Option.bind_some]
  cases hlt:df c q with
  | true =>
   rw [cond_true]
   refine HN l c hl hn n p' (q :: s) hout hp' fun g hg=>?_
   rcases List.mem_cons.1 hg with rfl | hg
   ·exact hlt
   ·exact hs g hg
  | false =>
   rw [cond_false]
   change En _ (bif CM q c then some l else _)
   cases he:CM q c with
   | true =>
    rw [cond_true]
    have:=zU.1 he
    subst this
    refine .some ⟨hl,fun x=>?_,by omega⟩
    constructor
    ·exact fun h=>.inl h
    ·rintro (h | rfl)
     ·exact h
     ·rw [hout];simp
   | false =>
    have hqc:l7 q c:=by
     rcases FN q c with h | h | h
     ·exact h
     ·exact absurd h (LW.1 he)
     ·unfold l7 at h;rw [hlt] at h;cases h
    have hall:∀ g∈p,l7 g c:=fun g hg=>by
     rw [hq] at hg
     rcases List.mem_append.1 hg with hg | hg
     ·exact qD (hbef g hg) hqc
     ·rw [List.mem_singleton] at hg;rw [hg];exact hqc
    rw [aT (p:=(0:Int)≤((n+1:Nat):Int)) (by omega)] at ins ⊢
    simp only [an] at ins
    simp only [cond_false,an]
    refine ⟨_,ins, ?_⟩
    rw [hps]
    exact Lh (hps ▸ hl) hall hs
theorem JY {l:List GClaim} (hl:uP l) (c:GClaim) (hn:l.length≤900000):En (Oh l c) (pc l c):=by
 rw [AD]
 exact HN l c hl hn l.length l [] (by rw [List.append_nil]) rfl (by simp)
def sQ (l r:List GClaim):Prop:=uP r∧∀ x,x∈r↔x∈l
theorem vU {K:ay} {L:List Kd} (hK:bL K) (h:fe K L) (hl:L.length≤100000):En (fun r=>sQ (cq (fG K)) r.1) (kO ⟨L⟩):=by
 rw [vM,(oN hK h hl).2,Option.bind_some]
 dsimp only
 have hof:=Lb hK 6
 have hlen:=iE K 6
 change ∀ d∈fG K,_ at hof
 change (fG K).length≤_ at hlen
 generalize fG K = D at *
 have key:∀ (m i:Nat) (out:List GClaim),D.length = i+m→sQ (cq (D.take i)) out→out.length≤i→En (fun r:List GClaim × GPensionref31_Feeds=>sQ (cq D) r.1) (di out (i:Int) D ⟨L⟩):=by
  intro m
  induction m with
  | zero =>
   intro i out hi ho hol
   have:i = D.length:=by omega
   subst this
   rw [jO,cV,cond_false]
   rw [List.take_length] at ho
   exact .some ho
  | succ m ih =>
   intro i out hi ho hol
   have hlt:i < D.length:=by omega
   have hd:=hof _ (List.getElem_mem hlt)
   have hbl:=wI hd
   have ht:D.take (i+1) = D.take i++[D[i]]:=(List.take_append_getElem hlt).symm
   rw [jO]
   simp only [cA hlt,bu,cond_true,an,Bool.or_true,cd hlt,bW hlt (by omega)]
   cases hk:ak D[i].Kind 2 with
   | true =>
    have e1:cq [D[i]] = [(jS D[i].Body).1]:=by unfold cq;rw [List.filter_cons,if_pos hk];rfl
    rw [cond_true,ua hd.2.1,Option.bind_some]
    refine En.bind (JY ho.1 _ (by omega)) fun r hr=>?_
    refine ih (i+1) r (by omega) ⟨hr.1,fun x=>?_⟩ (by have:=hr.2.2;omega)
    rw [hr.2.1,ho.2,ht,sF,e1,List.mem_append,List.mem_singleton]
   | false =>
    have e1:cq [D[i]] = []:=by unfold cq;rw [List.filter_cons,if_neg (by rw [hk];simp)];rfl
    rw [cond_false]
    refine ih (i+1) out (by omega) ⟨ho.1,fun x=>?_⟩ (by omega)
    rw [ho.2,ht,sF,e1,List.append_nil]
 exact key D.length 0 [] (by omega) ⟨List.Pairwise.nil,fun x=>by simp [cq]⟩ (by simp)
theorem N1 {a b:GClaim}:df a b = false↔bN (cF b) (cF a) = true:=by rw [Dx];simp
theorem Lr:Go.Sort.SWO df:=by
 refine ⟨fun x=>?_,fun x y z h1 h2=>qD h1 h2,fun x y z h1 h2=>?_⟩
 ·cases h:df x x with
  | false=>rfl
  | true=>exact absurd h (rm x)
 ·rw [N1] at *
  exact nm h2 h1
theorem DM (l:List GClaim):(qf l).Perm l∧(qf l).Pairwise fun a b=>df b a = false :=
 @Dc _ ⟨zS .GClaim⟩ _ Lr l
def G0 (l:List GClaim):Prop:=l.Pairwise fun a b=>df b a = false
theorem KQ {S:List GClaim} (hs:G0 S) {i j:Nat} (hij:i < j) (hj:j < S.length) (hne:S[j]≠S[i]'(by omega)):l7 (S[i]'(by omega)) S[j]:=by
 have h:=(List.pairwise_iff_getElem.1 hs) i j (by omega) hj hij
 rcases FN (S[i]'(by omega)) S[j] with g | g | g
 ·exact g
 ·exact absurd g.symm hne
 ·unfold l7 at g;rw [h] at g;cases g
structure R2 (S s:List GClaim) (j k:Nat):Prop where
  len:s.length = S.length
  kj:k≤j
  k1:1≤k
  asc:uP (s.take k)
  mem:∀ x,x∈s.take k↔x∈S.take (j+1)
  last:∀ (hk:k - 1 < s.length) (hj:j < S.length),s[k - 1] = S[j]
  rest:∀ (i:Nat) (hi:i < s.length) (hi':i < S.length),j≤i→s[i] = S[i]
theorem LI {S:List GClaim} (hs:G0 S) (hn:S.length≤100000) {o:Nat} (ho:o < S.length):∀ (m k k2:Nat) (s:List GClaim),o+k2+m = S.length→1≤k2→R2 S s (o+k2 - 1) k→En (sQ S) (dI (k:Int) (o:Int) ((S.length - o:Nat):Int) (k2:Int) s)
 | 0,k,k2,s,hm,hk2,h=>by
  have hl:=h.len
  have hkj:=h.kj
  have ek:((s.length:Int) - (k:Int)).toNat = s.length - k:=by omega
  have hrl:(List.replicate (s.length - k) (⟨0,0,0,0,0,0⟩:GClaim)).length = s.length - k:=List.length_replicate
  have e1:af ((s.take k)++((List.replicate (s.length - k) (⟨0,0,0,0,0,0⟩:GClaim))++(s.drop (k+(s.length - k))))) 0 ((k:Int) - 0).toNat = s.take k:=by
   rw [p6,List.take_left' (by rw [List.length_take];omega)]
  rw [kH,Int.toNat_natCast,Int.toNat_natCast,Int.toNat_natCast,aX (by omega),cond_false,ek,Int.toNat_natCast k,e1,ab (by omega),ab (by omega),ab (by omega),ab (by omega),ab (by omega),ab (by simp only [List.length_append,List.length_take,List.length_replicate,List.length_drop];omega)]
  refine .some ⟨h.asc,fun x=>?_⟩
  rw [h.mem,show o+k2 - 1+1 = S.length by omega,List.take_length]
 | m+1,k,k2,s,hm,hk2,h=>by
  have hl:=h.len
  have hkj:=h.kj
  have hj:o+k2 < S.length:=by omega
  have hw:ac ((k2:Int) - 1) = ((k2 - 1:Nat):Int):=by rw [aA (by omega) (by omega)];omega
  have g1:gD s (o+k2) (zS .GClaim) = S[o+k2]:=by
   have:o+k2 < s.length:=by omega
   rw [lr (List.getElem?_eq_getElem this)]
   exact h.rest _ _ hj (by omega)
  have hj0:o+k2 - 1 < S.length:=by omega
  have g2:gD s (o+(k2 - 1)) (zS .GClaim) = S[o+k2 - 1]:=by
   have:o+(k2 - 1) < s.length:=by omega
   rw [lr (List.getElem?_eq_getElem this)]
   have:=h.rest (o+(k2 - 1)) (by omega) (by omega) (by omega)
   rw [this]
   congr 1
   omega
  have ht:S.take (o+k2 - 1+1+1) = S.take (o+k2 - 1+1)++[S[o+k2]]:=by
   rw [show o+k2 - 1+1 = o+k2 by omega]
   exact (List.take_append_getElem hj).symm
  rw [kH,Int.toNat_natCast,Int.toNat_natCast,aT (p:=(k2:Int) < ((S.length - o:Nat):Int)) (by omega),cond_true,bu,an,an,hw,Int.toNat_natCast,Int.toNat_natCast,g1,g2,bu,an,ab (by omega)]
  change En _ (bif !(CM S[o+k2] S[o+k2 - 1]) then _ else _)
  cases he:CM S[o+k2] S[o+k2 - 1] with
  | true =>
   have he:=zU.1 he
   rw [Bool.not_true,cond_false,aA (n:=(k2:Int)+1) (by omega) (by omega)]
   have:=LI hs hn ho m k (k2+1) s (by omega) (by omega) (by
    rw [show o+(k2+1) - 1 = o+k2 by omega]
    refine ⟨h.len,by omega,h.k1,h.asc,fun x=>?_,fun hk hj=>?_,fun i hi hi' hji=>h.rest i hi hi' (by omega)⟩
    ·rw [h.mem]
     rw [show o+k2+1 = o+k2 - 1+1+1 by omega,ht,List.mem_append,List.mem_singleton]
     constructor
     ·exact fun hx=>.inl hx
     ·rintro (hx | rfl)
      ·exact hx
      ·rw [he]
       have:o+k2 - 1 < (S.take (o+k2 - 1+1)).length:=by rw [List.length_take];omega
       have hm:=List.getElem_mem this
       rw [List.getElem_take] at hm
       exact hm
    ·rw [h.last hk (by omega),he])
   exact this
  | false =>
   have he:=LW.1 he
   have hlt:=KQ hs (i:=o+k2 - 1) (j:=o+k2) (by omega) hj he
   have hks:k < s.length:=by omega
   rw [Bool.not_false,cond_true,an,an,ab (by omega),ab (by omega),aA (n:=(k2:Int)+1) (by omega) (by omega),aA (n:=(k:Int)+1) (by omega) (by omega),Int.toNat_natCast]
   have htk:(s.set k S[o+k2]).take (k+1) = s.take k++[S[o+k2]]:=by
    have hks':k < (s.set k S[o+k2]).length:=by rw [List.length_set];exact hks
    rw [← List.take_append_getElem hks',List.getElem_set_self,List.take_set,List.set_eq_of_length_le (by rw [List.length_take];omega)]
   have hlastk:s[k - 1]'(by have:=h.k1;omega) = S[o+k2 - 1]:=h.last _ hj0
   have:=LI hs hn ho m (k+1) (k2+1) (s.set k S[o+k2]) (by omega) (by omega) (by
    rw [show o+(k2+1) - 1 = o+k2 by omega]
    refine ⟨by rw [List.length_set];exact h.len,by omega,by omega, ?_,fun x=>?_,fun hk hj=>?_,fun i hi hi' hji=>?_⟩
    ·rw [htk]
     refine List.pairwise_append.2 ⟨h.asc,by simp,fun x hx y hy=>?_⟩
     rw [List.mem_singleton] at hy
     subst hy
     obtain ⟨i,hi,rfl⟩:=List.getElem_of_mem hx
     rw [List.length_take] at hi
     have hk1:=h.k1
     by_cases hik:i = k - 1
     ·subst hik
      rw [List.getElem_take,hlastk]
      exact hlt
     ·have h2:=(List.pairwise_iff_getElem.1 h.asc) i (k - 1) (by rw [List.length_take];omega) (by rw [List.length_take];omega) (by omega)
      rw [List.getElem_take (i:=k - 1),hlastk] at h2
      exact qD h2 hlt
    ·rw [htk,List.mem_append,h.mem, ← List.mem_append, ← ht,show o+k2 - 1+1+1 = o+k2+1 by omega]
    ·simp only [Nat.add_sub_cancel,List.getElem_set_self]
    ·rw [List.getElem_set_ne (by omega)]
     rw [List.length_set] at hi
     exact h.rest i hi hi' (by omega))
   exact this
theorem Py {S:List GClaim} (hs:G0 S) (hn:S.length≤100000):∀ (m k:Nat),k+m = S.length→1≤k→uP (S.take k)→En (sQ S) (ig (k:Int) S)
 | 0,k,hm,hk,h=>by
  rw [nH,aX (by omega),cond_false]
  rw [show k = S.length by omega,List.take_length] at h
  exact .some ⟨h,fun x=>Iff.rfl⟩
 | m+1,k,hm,hk,h=>by
  have hlt:k < S.length:=by omega
  have hlt1:k - 1 < S.length:=by omega
  have hw:ac ((k:Int) - 1) = ((k - 1:Nat):Int):=by rw [aA (by omega) (by omega)];omega
  rw [nH,cA hlt,cond_true,bu,an,an,hw,bu,an,cA hlt1,an,cd hlt,cd hlt1]
  change En _ (bif CM S[k] S[k - 1] then _ else _)
  cases he:CM S[k] S[k - 1] with
  | true =>
   have he:=zU.1 he
   rw [cond_true,an,ab (by omega),ab (by omega),Int.toNat_natCast,show ((S.length:Int) - (k:Int)).toNat = S.length - k by omega]
   refine LI hs hn hlt (m:=m) k 1 S (by omega) (by omega) ?_
   rw [show k+1 - 1 = k by omega]
   refine ⟨rfl,Nat.le_refl _,hk,h,fun x=>?_,fun _ _=>he.symm,fun _ _ _ _=>rfl⟩
   rw [← List.take_append_getElem hlt,List.mem_append,List.mem_singleton]
   constructor
   ·exact fun hx=>.inl hx
   ·rintro (hx | rfl)
    ·exact hx
    ·rw [he]
     have:k - 1 < (S.take k).length:=by rw [List.length_take];omega
     have hm:=List.getElem_mem this
     rw [List.getElem_take] at hm
     exact hm
  | false =>
   have he:=LW.1 he
   have hl2:=KQ hs (i:=k - 1) (j:=k) (by omega) hlt he
   rw [cond_false,bW hlt (by omega)]
   refine Py hs hn m (k+1) (by omega) (by omega) ?_
   rw [← List.take_append_getElem hlt]
   refine List.pairwise_append.2 ⟨h,by simp,fun x hx y hy=>?_⟩
   rw [List.mem_singleton] at hy
   subst hy
   obtain ⟨i,hi,rfl⟩:=List.getElem_of_mem hx
   rw [List.length_take] at hi
   by_cases hik:i = k - 1
   ·subst hik
    rw [List.getElem_take]
    exact hl2
   ·have h2:=(List.pairwise_iff_getElem.1 h) i (k - 1) (by rw [List.length_take];omega) (by rw [List.length_take];omega) (by omega)
    rw [List.getElem_take (i:=k - 1)] at h2
    exact qD h2 hl2
theorem LZ {S:List GClaim} (hs:G0 S) (hn:S.length≤100000):En (sQ S) (oW S):=by
 rw [AG]
 by_cases h2:S.length < 2
 ·rw [aT (by omega),cond_true]
  refine .some ⟨?_,fun x=>Iff.rfl⟩
  match S,h2 with
  | [],_=>exact List.Pairwise.nil
  | [x],_=>exact List.pairwise_singleton _ _
 ·rw [aX (by omega),cond_false]
  have:=Py hs hn (S.length - 1) 1 (by omega) (Nat.le_refl _) (by
   match S,h2 with
   | x :: r,_=>exact List.pairwise_singleton _ _
   | [],h2=>exact absurd (by simp) h2)
  exact this
theorem GC {K:ay} {ks vs} (hK:bL K) {s:Nat} (hs:s < 6) (o0:List GClaim) (ho:o0.length≤10000) :
  be (s:Int) ((eZ K (s:Int)).length:Int) 0 o0 (eZ K (s:Int)) ks vs = dH ((s+1:Nat):Int) (o0++cq (eZ K (s:Int))) ks vs:=by
 have hn:=tN K (s:Int)
 have hof:=Bn hK (s:Int)
 generalize eZ K (s:Int) = D at *
 have loop:=(Dj D (fun i o=>be (s:Int) (D.length:Int) i o D ks vs) (fun o d=>o++if ak d.Kind 2 = true then [(jS d.Body).1] else []) (fun i o=>o.length≤10000+i) (fun i o hi ho=>⟨by
   show be _ _ _ _ _ _ _ = be _ _ _ _ _ _ _
   have hd:=hof _ (List.getElem_mem hi)
   have hbl:=wI hd
   rw [jm]
   simp only [cA hi,bu,cond_true,an,Bool.or_true,cd hi,bW hi (by omega)]
   rw [qi hd.2.1 (by omega),Option.bind_some,cc]
   cases hk:ak D[i].Kind 2 with
   | true=>rw [Oo hd (aY.1 hk),Bool.and_self,cond_true,ab (by omega),ab (by omega),if_pos rfl]
   | false=>rw [Bool.and_false,cond_false,if_neg (by simp),List.append_nil],by split <;> simp <;> omega⟩) o0 (by omega)).1
 refine Eq.trans loop ?_
 show be _ _ _ _ _ _ _ = _
 rw [jm,cV,cond_false,aA (by omega) (by omega),B5 (fun d:GDocument=>ak d.Kind 2)]
 rfl
theorem uz {K:ay} {ks vs} (hK:bL K) (h:bI K ks vs):∀ (k n:Nat),n+k = 6→En (fun r=>sQ (cq (fG K)) r.1∧r.2 = (ks,vs)) (dH (n:Int) (cq (mT K n)) ks vs)
 | 0,n,hn=>by
  have h1:=oF (mT K n)
  have h2:=iE K n
  rw [kU,aX (by omega),cond_false,ab (by omega)]
  obtain ⟨p1,p2⟩:=DM (cq (mT K n))
  refine En.bind (LZ p2 (by rw [p1.length_eq];omega)) fun r hr=>.some ⟨⟨hr.1,fun x=>?_⟩,rfl⟩
  rw [hr.2,p1.mem_iff,show n = 6 by omega]
  rfl
 | k+1,n,hn=>by
  have h1:=oF (mT K n)
  have h2:=iE K n
  rw [kU,aT (by omega),cond_true,gg hK h,Option.bind_some]
  dsimp only
  rw [GC hK (by omega) _ (by omega), ← sF, ← uc]
  exact uz hK h k (n+1) (by omega)
theorem jq {K:ay} {ks vs} (hK:bL K) (h:bI K ks vs):En (fun r=>sQ (cq (fG K)) r.1∧r.2 = (ks,vs)) (fy ks vs):=by
 rw [w5]
 exact uz hK h 6 0 rfl
theorem F8 {l a b:List GClaim} (ha:sQ l a) (hb:sQ l b):a = b:=NX ha.1 hb.1 fun x=>(ha.2 x).trans (hb.2 x).symm
theorem tR (a:List GClaim) (hl:a.length≤1000000):mG a a = some true:=by
 rw [Bh,bQ.2 rfl,cond_false]
 refine (D5 a (fun i=>dt a a i) (fun _=>false) none (some true) ?_ fun i hi=>?_).trans (by simp)
 ·show dt _ _ _ = _
  rw [oB,cV];rfl
 ·show dt _ _ _ = if (false:Bool) = true then none else dt a a ((i+1:Nat):Int)
  rw [if_neg (by simp),oB]
  simp only [cA hi,bu,cond_true,an,Bool.or_true,cd hi,bW hi (by omega)]
  simp only [gn,Bool.and_self,Bool.not_true,cond_false]
theorem Il {l a:List GClaim} (h:sQ l a):a.length≤l.length:=by
 refine List.Nodup.length_le_of_subset ?_ fun x hx=>(h.2 x).1 hx
 rw [List.nodup_iff_pairwise_ne]
 exact h.1.imp fun hxy e=>by subst e;exact rm _ hxy
theorem zz (l:List GPensionlaw31_Raw) (xby:List Int):nM l xby = some true:=by
 obtain ⟨d,m,L,ks,vs,h1,h2,h3,_,_,_,hM,hL,hK,hk,hl⟩:=Jz l xby
 obtain ⟨⟨a,k1,v1⟩,c1,c2,c3⟩:=jq hK hM
 obtain ⟨⟨b,L1⟩,e1,e2⟩:=vU hK hL (by omega)
 have hab:a = b:=F8 c2 e2
 subst hab
 have q1:=iH (cM (fG (dA m)))
 have q2:=mj (fG (dA m))
 have q3:(fG (dA m)).length≤6000:=iE (dA m) 6
 have q4:=oF (fG (dA m))
 have q5:a.length≤_:=Il c2
 rw [tv,h1,Option.bind_some,h2,Option.bind_some,h3,Option.bind_some,tT,Option.bind_some,cond_true]
 dsimp only
 rw [cond_true,jt hK hM,Option.bind_some,u7 hK hL (by omega),Option.bind_some]
 dsimp only
 rw [xU _ (by omega),Option.bind_some,cond_true,c1,Option.bind_some,e1,Option.bind_some]
 dsimp only
 rw [tR _ (by show a.length≤_;omega)]
 rfl
theorem w9 (l:List GPensionlaw31_Raw) (xby again:List Int):l9 l xby again = some true:=by
 obtain ⟨d,h1,hd⟩:=IO l
 obtain ⟨m,h2,hm⟩:=(wq xby hd.1).1
 obtain ⟨m',h2',hm'⟩:=(wq again hd.1).1
 obtain ⟨L,ks,vs,h3,hM,_,hK,hk,_⟩:=Jt (DR hm hd.2) hm.1
 obtain ⟨L',ks',vs',h3',hM',_,hK',hk',_⟩:=Jt (DR hm' hd.2) hm'.1
 have same:dA m = dA m':=(Gq hd.2 hm.2).trans (Gq hd.2 hm'.2).symm
 rw [← same] at hM' hK'
 generalize dA m = K at *
 obtain ⟨r,e1,e2⟩:=wW hK hK' hM hM'
 obtain ⟨⟨a,k1,v1⟩,c1,c2,c3⟩:=jq hK hM
 obtain ⟨⟨b,k2,v2⟩,c1',c2',c3'⟩:=jq hK hM'
 have hab:a = b:=F8 c2 c2'
 subst hab
 have q1:=iH (cM (fG K))
 have q2:=mj (fG K)
 have q3:(fG K).length≤6000:=iE K 6
 have q4:=oF (fG K)
 have q5:a.length≤_:=Il c2
 rw [rL,h1,Option.bind_some,h2,Option.bind_some,h3,Option.bind_some,h2',Option.bind_some,h3',Option.bind_some,tT]
 dsimp only
 rw [Bool.not_true,cond_false,cond_false,Option.bind_some,Bool.not_true,cond_false,e1,Option.bind_some,e2.2 rfl]
 dsimp only
 rw [Bool.not_true,cond_false,dM hK hM,Option.bind_some,dM hK hM',Option.bind_some]
 dsimp only
 rw [ud (EV _) (EV _),decide_eq_true rfl,Option.bind_some,Bool.not_true,cond_false,jt hK hM,Option.bind_some,jt hK hM',Option.bind_some]
 dsimp only
 rw [xU _ (by omega),Option.bind_some,cond_true,c1,Option.bind_some,c1',Option.bind_some]
 dsimp only
 rw [tR _ (by show a.length≤_;omega)]
 rfl
end Go.Ax
