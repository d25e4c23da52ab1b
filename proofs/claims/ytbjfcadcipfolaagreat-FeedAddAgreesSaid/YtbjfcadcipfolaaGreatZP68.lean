import Derived.Test.YtbjfcadcipfolaaGreatZP67
set_option linter.all false
/- Both feeds answer all questions alike;what is no document is rejected. -/
set_option maxRecDepth 100000
namespace Go.Ax
def oN (n:Int):GSpan:=⟨n,n+1⟩
noncomputable def wF (K:ao) (s:Int):List GSpan:=((bi K s).map oN).foldl fH []
theorem J1 (K:ao) (s:Int):∀ n∈bi K s,1≤n∧n≤999:=fun n hn=>by
 unfold bi at hn
 obtain ⟨i,hi,rfl⟩:=List.mem_map.1 hn
 have:=List.mem_range.1 (List.mem_filter.1 hi).1
 omega
theorem Gf (K:ao) (s:Int):vf ((bi K s).map oN) = wF K s:=by
 have hr:=J1 K s
 have ok:∀ x∈(bi K s).map oN,0≤x.From∧x.From < x.To∧x.To≤73049:=fun x hx=>by
  obtain ⟨n,hn,rfl⟩:=List.mem_map.1 hx
  have:=hr n hn
  unfold oN
  simp only
  omega
 have asc:((bi K s).map oN).Pairwise fun a b=>a.From≤b.From:=by
  rw [List.pairwise_map]
  exact (qJ K s).imp fun h=>by unfold oN;simp only;omega
 obtain ⟨f1,f2,_⟩:=zO _ [] trivial (fun x hx=>by simp at hx) asc ok
 obtain ⟨g1,g2,_⟩:=IX ((bi K s).map oN)
 refine GQ g1 f1 fun d=>?_
 unfold wF
 rw [g2,f2]
 constructor
 ·rintro ⟨h,_⟩;exact .inr h
 ·rintro (h | ⟨x,hx,h⟩)
  ·exact (lH h).elim
  ·have:=ok x hx
   exact ⟨⟨x,hx,h⟩,by omega,by omega⟩
theorem vp {K:ao} {ks vs} (hK:aS K) (h:bg K ks vs) (hk:ks.length≤100000) (s:Int):kY s ks vs = some (wF K s,ks,vs):=by
 have hn:=uL K s
 have hr:=J1 K s
 rw [wr,iO hK h hk,Option.bind_some]
 dsimp only
 have loop:=P6 (bi K s) (fun i out=>ck ((bi K s).length:Int) i out (bi K s) ks vs) (fun n=>[oN n]) 1 (fun x _=>by simp) (fun i out hi ho=>by
  show ck _ _ _ _ _ _ = ck _ _ _ _ _ _
  have:=hr _ (List.getElem_mem hi)
  rw [kH]
  simp only [dj hi,bH,cond_true,ap,Bool.or_true,cz hi,co hi (by omega)]
  rw [ab (by omega),ab (by omega),ay (by omega) (by omega)]
  rfl)
 refine Eq.trans loop ?_
 show ck _ _ _ _ _ _ = _
 have e:((bi K s).flatMap fun n=>[oN n]) = (bi K s).map oN:=by
  generalize bi K s = l
  induction l with
  | nil=>rfl
  | cons x l ih=>rw [List.flatMap_cons,ih];rfl
 rw [kH,cJ,cond_false,e,EC _ (by rw [List.length_map];omega),Option.bind_some,Gf]
theorem Nn {L:List Kd} {s:Int} {i:Nat} (hi:i < L.length) (hl:L.length≤100000) {out:List GSpan} (ho:out.length≤i) (hn:L[i].D.Sender = s→1≤L[i].D.Number∧L[i].D.Number≤999∧∀ y∈out,y.To≤L[i].D.Number) :
  aY ⟨L⟩ s (i:Int) out = aY ⟨L⟩ s ((i+1:Nat):Int) (if L[i].D.Sender = s then fH out (oN L[i].D.Number) else out):=by
 rw [kc]
 dsimp only
 rw [dj hi,cond_true,bH,ap,ap,cz hi,co hi (by omega)]
 by_cases hs:L[i].D.Sender = s
 ·obtain ⟨h1,h2,h3⟩:=hn hs
  rw [bj.2 hs,cond_false,if_pos hs]
  rcases ow out with rfl | ⟨p,x,rfl⟩
  ·rw [ay (n:=L[i].D.Number+1) (by omega) (by omega)]
   rfl
  ·have hx:=h3 x (by simp)
   have hlen:(p++[x]).length = p.length+1:=by simp
   rw [oz,LD p x (by omega),Int.toNat_natCast,FM,Iw,aV (p:=(0:Int) < ((p++[x]).length:Int)) (by omega),i7 (by rw [bH,Bool.or_true]),i7 (by rw [aV (by omega),Bool.or_true]),cond_true]
   by_cases he:x.To = L[i].D.Number
   ·rw [aZ.2 he,cond_true,bH,ap,ab (by omega),ap,ab (by omega),if_pos (by unfold oN;simp only;omega),ay (by omega) (by omega),if_pos (by unfold oN;simp only;omega)]
    show aY _ _ _ (p++[⟨x.From,x.To+1⟩]) = aY _ _ _ (p++[⟨x.From,L[i].D.Number+1⟩])
    rw [he]
   ·rw [eJ.2 he,cond_false,ab (by omega),ab (by omega),if_neg (by unfold oN;simp only;omega),ay (by omega) (by omega)]
    rfl
 ·rw [bS.2 hs,cond_true,if_neg hs]
theorem PD {out:List GSpan} {n:Int} (h:∀ y∈out,y.To≤n):∀ y∈fH out (oN n),y.To≤n+1:=by
 intro y hy
 rcases ow out with rfl | ⟨p,x,rfl⟩
 ·rw [u7,List.mem_singleton] at hy
  rw [hy];exact Int.le_refl _
 ·have hx:=h x (by simp)
  rw [oz] at hy
  split at hy
  ·rcases List.mem_append.1 hy with hy | hy
   ·have:=h y (by simp [hy]);omega
   ·rw [List.mem_singleton] at hy
    rw [hy]
    simp only
    split
    ·exact Int.le_refl _
    ·omega
  ·rcases List.mem_append.1 hy with hy | hy
   ·have:=h y hy;omega
   ·rw [List.mem_singleton] at hy
    rw [hy];exact Int.le_refl _
theorem Fi {A T:Type} (p:T→Bool) (g:A→T→A):∀ (l:List T) (a:A),l.foldl (fun a x=>if p x = true then g a x else a) a = (l.filter p).foldl g a
 | [],a=>rfl
 | x :: l,a=>by
  rw [List.foldl_cons,List.filter_cons]
  split
  ·rw [List.foldl_cons,Fi p g l]
  ·rw [Fi p g l]
theorem Oq {K:ao} (hK:aS K) {s:Nat} (hs:s < 6):((xS K).filter fun x=>am x.D.Sender (s:Int)).map (fun x=>x.D.Number) = bi K (s:Int):=by
 have key:∀ l:List Nat,l.Nodup→(((l.flatMap fun t:Nat=>(bi K (t:Int)).map (mV K (t:Int))).filter fun x=>am x.D.Sender (s:Int)).map fun x=>x.D.Number) = if s∈l then bi K (s:Int) else []:=by
  intro l
  induction l with
  | nil=>intro _;rfl
  | cons t l ih =>
   intro hnd
   obtain ⟨h1,h2⟩:=List.nodup_cons.1 hnd
   rw [List.flatMap_cons,List.filter_append,List.map_append,ih h2]
   have e1:(((bi K (t:Int)).map (mV K (t:Int))).filter fun x=>am x.D.Sender (s:Int)).map (fun x=>x.D.Number) = if t = s then bi K (s:Int) else []:=by
    rw [List.filter_map,List.map_map]
    by_cases hts:t = s
    ·subst hts
     rw [if_pos rfl]
     have:(bi K (t:Int)).filter ((fun x:Kd=>am x.D.Sender (t:Int)) ∘ mV K (t:Int)) = bi K (t:Int):=by
      rw [List.filter_eq_self]
      intro n hn
      exact aZ.2 (k9 hK ((bX hK _ _).1 hn)).1
     rw [this]
     conv=>rhs;rw [← List.map_id (bi K (t:Int))]
     refine List.map_congr_left fun n hn=>?_
     exact (k9 hK ((bX hK _ _).1 hn)).2
    ·rw [if_neg hts]
     have:(bi K (t:Int)).filter ((fun x:Kd=>am x.D.Sender (s:Int)) ∘ mV K (t:Int)) = []:=by
      rw [List.filter_eq_nil_iff]
      intro n hn
      have:=(k9 hK ((bX hK _ _).1 hn)).1
      show ¬ am (mV K (t:Int) n).D.Sender (s:Int) = true
      rw [this,aZ]
      omega
     rw [this]
     rfl
   rw [e1]
   by_cases hts:t = s
   ·subst hts
    rw [if_pos rfl,if_neg h1,if_pos (by simp),List.append_nil]
   ·rw [if_neg hts,List.nil_append]
    by_cases hsl:s∈l
    ·rw [if_pos hsl,if_pos (by simp [hsl])]
    ·rw [if_neg hsl,if_neg (by simp [hsl];omega)]
 unfold xS
 rw [key _ List.nodup_range,if_pos (List.mem_range.2 hs)]
theorem uk {K:ao} {L:List Kd} (hK:aS K) (h:di K L) (hl:L.length≤100000) {s:Nat} (hs:s < 6):kq ⟨L⟩ (s:Int) = some (wF K (s:Int)):=by
 rw [vH]
 have rng:∀ x∈L,1≤x.D.Number∧x.D.Number≤999:=fun x hx=>(hK.rng (h.val x hx).1).2.1
 have loop:=(xH L (fun i out=>aY ⟨L⟩ (s:Int) i out) (fun out x=>if am x.D.Sender (s:Int) = true then fH out (oN x.D.Number) else out) (fun i out=>out.length≤i∧∀ y∈out, ∀ j (hj:j < L.length),i≤j→L[j].D.Sender = (s:Int)→y.To≤L[j].D.Number) (fun i out hi ho=>by
  obtain ⟨ho1,ho2⟩:=ho
  have r:=rng _ (List.getElem_mem hi)
  have step:=Nn (s:=(s:Int)) hi hl ho1 (fun hse=>⟨r.1,r.2,fun y hy=>ho2 y hy i hi (Nat.le_refl _) hse⟩)
  by_cases hse:L[i].D.Sender = (s:Int)
  ·rw [if_pos hse] at step
   rw [if_pos (aZ.2 hse)]
   refine ⟨step,by have:=GO out (oN L[i].D.Number);omega,fun y hy j hj hij hje=>?_⟩
   have h1:=PD (fun y hy=>ho2 y hy i hi (Nat.le_refl _) hse) y hy
   have h2:=(List.pairwise_iff_getElem.1 h.srt) i j hi hj (by omega)
   rw [hse,hje] at h2
   unfold iz at h2
   omega
  ·rw [if_neg hse] at step
   rw [if_neg (by rw [aZ];exact hse)]
   exact ⟨step,by omega,fun y hy j hj hij hje=>ho2 y hy j hj (by omega) hje⟩) [] ⟨by simp,fun y hy=>by cases hy⟩).1
 refine Eq.trans loop ?_
 show aY _ _ _ _ = _
 rw [kc]
 show (bif aa ((L.length:Int) < (L.length:Int)) then _ else _) = _
 rw [cJ,cond_false,Fi (fun x:Kd=>am x.D.Sender (s:Int)) (fun out x=>fH out (oN x.D.Number))]
 unfold wF
 rw [← Oq hK hs,LW hK h,List.map_map,List.foldl_map]
 rfl
theorem Ez (a:List GSpan) (hl:a.length≤100000):xj a a = some true:=by
 rw [G8,bj.2 rfl,cond_false]
 refine (AV a (fun i=>eQ a a i) (fun _=>false) none (some true) ?_ fun i hi=>?_).trans (by simp)
 ·show eQ _ _ _ = _
  rw [rM,cJ];rfl
 ·show eQ _ _ _ = if (false:Bool) = true then none else eQ a a ((i+1:Nat):Int)
  rw [if_neg (by simp),rM]
  simp only [dj hi,bH,cond_true,ap,Bool.or_true,cz hi,co hi (by omega)]
  simp only [dv,Bool.and_self,Bool.not_true,cond_false]
theorem L4 (K:ao) (s:Int):(wF K s).length≤999:=by
 have h:=(IX ((bi K s).map oN)).2.2
 rw [Gf,List.length_map] at h
 exact Nat.le_trans h (uL K s)
theorem LM {K:ao} (hK:aS K) (s:Int):∀ (k n:Nat) (prev:Int), ∀ d∈gO K s k n prev,aB d.Body
 | 0,_,_,d,hd=>by cases hd
 | k+1,n,prev,d,hd=>by
  unfold gO at hd
  split at hd
  ·cases hd
  ·next b hb =>
   split at hd
   ·rcases List.mem_cons.1 hd with rfl | hd
    ·exact (BR (hK _ _ _ hb).1).1
    ·exact LM hK s k (n+1) _ d hd
   ·cases hd
theorem Ew {d:GDocument} (h:aB d.Body):yo d d = some true:=by
 rw [Hl,dv,cond_true,dv,cond_true,dv,cond_true,dv,cond_true,dN h h,decide_eq_true rfl]
 rfl
theorem p8 {K:ao} {L:List Kd} {ks vs} (hK:aS K) (h:di K L) (hM:bg K ks vs) (hl:L.length≤100000) (hk:ks.length≤100000):nX ⟨L⟩ ks vs = some (true,⟨L⟩,ks,vs):=by
 rw [Hd]
 have key:∀ (k s:Nat),s+k = 6→l6 (s:Int) ⟨L⟩ ks vs = some (true,⟨L⟩,ks,vs):=by
  intro k
  induction k with
  | zero =>
   intro s hs
   rw [rS,bp (by omega),cond_false,aH hK hM,Option.bind_some]
   dsimp only
   rw [sJ hK h (by omega),Option.bind_some,dN (fM _) (fM _),decide_eq_true rfl,Option.bind_some]
  | succ k ih =>
   intro s hs
   have hd:=IA K (s:Int) 1000 1 0
   have hd:(kM K (s:Int)).length≤1000:=hd
   rw [rS,aV (by omega),cond_true,kT hK hM,Option.bind_some,(kB hK h (by omega) (s:Int)).1,Option.bind_some]
   dsimp only
   rw [d9 hK hM,Option.bind_some,yQ hK h (by omega),Option.bind_some]
   dsimp only
   rw [bj.2 rfl,cond_false,fI hK hM,Option.bind_some,fj hK h (by omega),Option.bind_some]
   dsimp only
   rw [bj.2 rfl,cond_false,vp hK hM hk,Option.bind_some,uk hK h hl (by omega),Option.bind_some]
   dsimp only
   rw [Ez _ (by have:=L4 K (s:Int);omega),Option.bind_some,Bool.not_true,cond_false,cond_false]
   generalize hdk:kM K (s:Int) = D at *
   have hbo:∀ d∈D,aB d.Body:=by rw [← hdk];exact LM hK (s:Int) 1000 1 0
   have fin:∀ (t28 t29 t31 t32:Int) (t33:Bool) (t37 t40:Int) (t42 t43:Bool) (t47 t49:Int) (t50:Bool) (x y:List GSpan),dm (s:Int) 0 t28 t29 t31 t32 t33 t37 t40 t42 t43 t47 t49 t50 ⟨L⟩ D D x y ks vs = some (true,⟨L⟩,ks,vs):=by
    intro t28 t29 t31 t32 t33 t37 t40 t42 t43 t47 t49 t50 x y
    refine (AV D (fun i=>dm (s:Int) i t28 t29 t31 t32 t33 t37 t40 t42 t43 t47 t49 t50 ⟨L⟩ D D x y ks vs) (fun _=>false) none (some (true,⟨L⟩,ks,vs)) ?_ fun i hi=>?_).trans (by simp)
    ·show dm _ _ _ _ _ _ _ _ _ _ _ _ _ _ _ _ _ _ _ _ _ = _
     rw [pl,cJ,cond_false,ay (by omega) (by omega)]
     exact ih (s+1) (by omega)
    ·rw [if_neg (by simp)]
     show dm _ _ _ _ _ _ _ _ _ _ _ _ _ _ _ _ _ _ _ _ _ = dm _ _ _ _ _ _ _ _ _ _ _ _ _ _ _ _ _ _ _ _ _
     rw [pl]
     simp only [dj hi,bH,cond_true,ap,Bool.or_true,cz hi,co hi (by omega)]
     rw [Ew (hbo _ (List.getElem_mem hi)),Option.bind_some,Bool.not_true,cond_false]
   exact fin _ _ _ _ _ _ _ _ _ _ _ _ _ _
 exact key 6 0 rfl
theorem A7 (l:List GPensionlaw31_Raw) (xby:List Int):pz l xby = some true:=by
 obtain ⟨d,m,L,ks,vs,h1,h2,h3,_,_,_,hM,hL,hK,hk,hl⟩:=oS l xby
 rw [wi,h1,Option.bind_some,h2,Option.bind_some,h3,Option.bind_some,ew,Option.bind_some,cond_true]
 dsimp only
 rw [cond_true,p8 hK hL hM (by omega) (by omega)]
 rfl
theorem RP {x:Int} (h:0≤x∧x < 256):(0≤IntKind.wrap .u8 (gq 8 x 16)∧IntKind.wrap .u8 (gq 8 x 16) < 256)∧IntKind.wrap .u8 (gq 8 x 16)≠x:=by
 have key:∀ n:Fin 256,(0≤IntKind.wrap .u8 (gq 8 (n.val:Int) 16)∧IntKind.wrap .u8 (gq 8 (n.val:Int) 16) < 256)∧IntKind.wrap .u8 (gq 8 (n.val:Int) 16)≠(n.val:Int):=by decide
 have:=key ⟨x.toNat,by omega⟩
 rw [show ((x.toNat:Nat):Int) = x by omega] at this
 exact this
theorem Qw {b:List Int} (hb:aB b) (hd:cP b = true) {j:Nat} (hj:j < b.length) {y:Int} (hy:0≤y∧y < 256) (hne:y≠b[j]):aB (b.set j y)∧cP (b.set j y) = false:=by
 have hok:aB (b.set j y):=fun x hx=>by
  rcases List.mem_or_eq_of_mem_set hx with hx | rfl
  ·exact hb x hx
  ·exact hy
 refine ⟨hok, ?_⟩
 cases hdk:cP (b.set j y) with
 | false=>rfl
 | true =>
  exfalso
  unfold cP at hd hdk
  simp only [Bool.and_eq_true,aZ,List.length_set] at hd hdk
  have e1:=hd.2.2.2.1
  have e2:=hdk.2.2.2.1
  have h15:=lO hd.1
  have hbj:=hb _ (List.getElem_mem hj)
  by_cases hlt:j < b.length - 4
  ·have d1:(b.set j y).drop (b.length - 4) = b.drop (b.length - 4):=by rw [List.drop_set,if_pos hlt]
   have t1:(b.set j y).take (b.length - 4) = (b.take (b.length - 4)).set j y:=by rw [List.take_set]
   rw [d1,e1,t1] at e2
   have hl:j < (b.take (b.length - 4)).length:=by rw [List.length_take];omega
   have s1:b.take (b.length - 4) = (b.take (b.length - 4)).take j++(b.take (b.length - 4))[j] :: (b.take (b.length - 4)).drop (j+1):=by rw [← List.drop_eq_getElem_cons hl,List.take_append_drop]
   have s2:(b.take (b.length - 4)).set j y = (b.take (b.length - 4)).take j++y :: (b.take (b.length - 4)).drop (j+1):=List.set_eq_take_append_cons_drop.trans (if_pos hl)
   rw [s2] at e2
   conv at e2=>lhs;rw [s1]
   have ej:(b.take (b.length - 4))[j] = b[j]:=List.getElem_take
   rw [ej] at e2
   exact hne (PO hbj hy e2).symm
  ·have t1:(b.set j y).take (b.length - 4) = b.take (b.length - 4):=by rw [List.take_set,List.set_eq_of_length_le (by rw [List.length_take];omega)]
   rw [t1, ← e1] at e2
   have hd4:((b.set j y).drop (b.length - 4)).length = (b.drop (b.length - 4)).length:=by rw [List.length_drop,List.length_drop,List.length_set]
   have e3:=QN (hok.drop _) (hb.drop _) hd4 e2
   have i1:(b.drop (b.length - 4))[j - (b.length - 4)]? = some b[j]:=by
    rw [List.getElem?_drop,show b.length - 4+(j - (b.length - 4)) = j by omega,List.getElem?_eq_getElem hj]
   have i2:((b.set j y).drop (b.length - 4))[j - (b.length - 4)]? = some y:=by
    rw [List.getElem?_drop,show b.length - 4+(j - (b.length - 4)) = j by omega,List.getElem?_set_self hj]
   rw [e3,i1] at i2
   injection i2 with i2
   exact hne i2.symm
theorem Qs {K:ao} {b:List Int} (h:cP b = false):bK K b = K:=by unfold bK;rw [tX h,if_neg (by omega)]
theorem Ae (l:List GPensionlaw31_Raw) (b:List Int) (xat x:Int) (hwf:∀ n,kO n (.ls (.i .u8)) b) (hsz:b.length≤140737488355328):oV l b xat x = some true:=by
 obtain ⟨d,L,ks,vs,h1,h2,h3,hM,hL,hK,hk,hl⟩:=tl l
 obtain ⟨hb,hB⟩:=IN hwf
 obtain ⟨k1,v1,a1,a2,a3⟩:=cc hK hM hb hsz
 obtain ⟨L1,b1,b2,b3⟩:=pu hK hL (by omega) hb hB
 have o1:=lZ hK hb
 rw [uw,h1,Option.bind_some,h2,Option.bind_some]
 dsimp only
 rw [Bool.not_true,cond_false,ew,Option.bind_some,Bool.not_true,cond_false,a1,Option.bind_some,b1,Option.bind_some]
 dsimp only
 rw [bj.2 rfl,cond_false,Option.bind_some]
 have h12:=h3.len
 by_cases hz:d.length = 0
 ·rw [aZ.2 (by omega),cond_true,p8 o1 b2 a2 (by omega) (by omega)]
  rfl
 ·have r0:=Int.emod_nonneg xat (b:=(d.length:Int)) (by omega)
  have r1:=Int.emod_lt_of_pos xat (b:=(d.length:Int)) (by omega)
  rw [eJ.2 (by omega),cond_false,bT _ _ (by omega) (by omega),Option.bind_some]
  obtain ⟨i,hi⟩:=Int.eq_ofNat_of_zero_le r0
  rw [hi]
  have hil:i < d.length:=by omega
  have hg:gD d ((i:Nat):Int).toNat [] = d[i]:=cz hil
  have hbo:=h3.ok _ (List.getElem_mem hil)
  have hbl:=fJ hbo.1 hbo.2
  have q0:=Int.emod_nonneg x (b:=(d[i].length:Int)) (by omega)
  have q1:=Int.emod_lt_of_pos x (b:=(d[i].length:Int)) (by omega)
  rw [hg,ab (by omega),ab (by omega),ab (by omega),ab (by omega),bT _ _ (by omega) (by omega),Option.bind_some]
  obtain ⟨j,hj⟩:=Int.eq_ofNat_of_zero_le q0
  rw [hj]
  have hjl:j < d[i].length:=by omega
  have hgj:gD d[i] ((j:Nat):Int).toNat 0 = d[i][j]:=cz hjl
  obtain ⟨f1,f2⟩:=RP (hbo.1 _ (List.getElem_mem hjl))
  rw [hgj,Int.toNat_natCast,ab (by omega),ab (by omega),ab (by omega),ab (by omega)]
  obtain ⟨n1,n2⟩:=Qw hbo.1 hbo.2 hjl f1 f2
  obtain ⟨k2,v2,c1,c2,c3⟩:=cc o1 a2 n1 (by rw [List.length_set];omega)
  rw [c1,Option.bind_some]
  dsimp only
  rw [Qs n2] at c2
  rw [tX n2,dv,cond_true,p8 o1 b2 c2 (by omega) (by omega)]
  rfl
end Go.Ax
