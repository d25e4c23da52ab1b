import Derived.Test.YtbjfcadcipfolaaGreatZP66
set_option linter.all false
/- Two feeds that know initial parts of the same chains know the same after an exchange. -/
set_option maxRecDepth 100000
namespace Go.Ax
def Dq (K:ao) (l:List (List Int)):Prop:=(∀ b∈l,K (ah b).Sender (ah b).Number = none)∧l.Pairwise fun a b=>¬ ((ah a).Sender = (ah b).Sender∧(ah a).Number = (ah b).Number)
theorem G1 {K:ao} {b:List Int} {l:List (List Int)} (h:Dq K (b :: l)):Dq (bK K b) l:=by
 obtain ⟨h1,h2⟩:=h
 obtain ⟨h3,h4⟩:=List.pairwise_cons.1 h2
 refine ⟨fun c hc=>?_,h4⟩
 unfold bK
 split
 ·unfold jo
  rw [if_neg fun e=>h3 c hc ⟨e.1.symm,e.2.symm⟩]
  exact h1 c (by simp [hc])
 ·exact h1 c (by simp [hc])
theorem GX {K:ao} (hK:aS K) (inv:List Int):(ct K inv).Pairwise fun a b=>iz (ah a).Sender (ah a).Number (ah b).Sender (ah b).Number:=by
 unfold ct
 rw [List.pairwise_flatMap]
 have at_:∀ (s:Nat) b,b∈kz K inv s→(ah b).Sender = (s:Int):=fun s b hb=>by
  obtain ⟨n,hn,rfl⟩:=List.mem_map.1 hb
  have hn:=(bX hK _ _).1 (List.mem_filter.1 hn).1
  exact (k9 hK hn).1
 refine ⟨fun s _=>?_, ?_⟩
 ·unfold kz
  rw [List.pairwise_map]
  refine ((qJ K s).filter _).imp_of_mem fun {a b} ha hb hab=>?_
  have e1:=k9 hK ((bX hK _ _).1 (List.mem_filter.1 ha).1)
  have e2:=k9 hK ((bX hK _ _).1 (List.mem_filter.1 hb).1)
  unfold mV at e1 e2
  rw [e1.1,e1.2,e2.1,e2.2]
  exact .inr ⟨rfl,hab⟩
 ·refine List.pairwise_lt_range.imp fun {a b} hab x hx y hy=>?_
  rw [at_ _ _ hx,at_ _ _ hy]
  exact .inl (by omega)
theorem Qa {p q:List (List Int)} (hp:gk p) (hpl:p.length≤10000) {ks vs}:∀ (m i:Nat) (B:ao) (k2:List Fk) (v2:List (List Int)),p.length = i+m→aS B→bg B k2 v2→Dq B (p.drop i) →
  ∃ k2' v2',dQ p q (i:Int) ks vs k2 v2 = bR q 0 ks vs k2' v2'∧bg ((p.drop i).foldl bK B) k2' v2'∧k2'.length≤k2.length+m
 | 0,i,B,k2,v2,hi,hB,hM,hf=>by
  have hi:i = p.length:=by omega
  subst hi
  refine ⟨k2,v2, ?_,by simpa using hM,by omega⟩
  rw [iH,cJ,cond_false]
 | m+1,i,B,k2,v2,hi,hB,hM,hf=>by
  have hlt:i < p.length:=by omega
  have hb:=hp _ (List.getElem_mem hlt)
  have hbl:=fJ hb.1 hb.2
  rw [List.drop_eq_getElem_cons hlt] at hf
  have e0:=p6 (K:=B) hb.2 (hf.1 _ (List.mem_cons.2 (.inl rfl)))
  obtain ⟨k3,v3,a1,a2,a3⟩:=cc hB hM hb.1 (by omega)
  obtain ⟨k2',v2',c1,c2,c3⟩:=Qa hp hpl (ks:=ks) (vs:=vs) (q:=q) m (i+1) _ k3 v3 (by omega) (lZ hB hb.1) a2 (G1 hf)
  refine ⟨k2',v2', ?_,by rw [List.drop_eq_getElem_cons hlt,List.foldl_cons];exact c2,by omega⟩
  rw [iH]
  simp only [dj hlt,bH,cond_true,ap,Bool.or_true,cz hlt,co hlt (by omega)]
  rw [a1,Option.bind_some]
  dsimp only
  rw [e0,bj.2 rfl,cond_false]
  exact c1
theorem Qc {q:List (List Int)} (hq:gk q) (hql:q.length≤10000) {k2 v2}:∀ (m i:Nat) (A:ao) (ks:List Fk) (vs:List (List Int)),q.length = i+m→aS A→bg A ks vs→Dq A (q.drop i) →
  ∃ ks' vs',bR q (i:Int) ks vs k2 v2 = bR q (q.length:Int) ks' vs' k2 v2∧bg ((q.drop i).foldl bK A) ks' vs'∧ks'.length≤ks.length+m
 | 0,i,A,ks,vs,hi,hA,hM,hf=>by
  have hi:i = q.length:=by omega
  subst hi
  exact ⟨ks,vs,rfl,by simpa using hM,by omega⟩
 | m+1,i,A,ks,vs,hi,hA,hM,hf=>by
  have hlt:i < q.length:=by omega
  have hb:=hq _ (List.getElem_mem hlt)
  have hbl:=fJ hb.1 hb.2
  rw [List.drop_eq_getElem_cons hlt] at hf
  have e0:=p6 (K:=A) hb.2 (hf.1 _ (List.mem_cons.2 (.inl rfl)))
  obtain ⟨k3,v3,a1,a2,a3⟩:=cc hA hM hb.1 (by omega)
  obtain ⟨ks',vs',c1,c2,c3⟩:=Qc hq hql (k2:=k2) (v2:=v2) m (i+1) _ k3 v3 (by omega) (lZ hA hb.1) a2 (G1 hf)
  refine ⟨ks',vs', ?_,by rw [List.drop_eq_getElem_cons hlt,List.foldl_cons];exact c2,by omega⟩
  conv=>lhs;rw [gZ]
  simp only [dj hlt,bH,cond_true,ap,Bool.or_true,cz hlt,co hlt (by omega)]
  rw [a1,Option.bind_some]
  dsimp only
  rw [e0,bj.2 rfl,cond_false]
  exact c1
structure kw (d:List (List Int)) (na:Int→Int) (K:ao):Prop where
  val:∀ s n b,K s n = some b↔b∈d∧(ah b).Number≤na (ah b).Sender∧(ah b).Sender = s∧(ah b).Number = n
theorem kw.len {d:List (List Int)} {na:Int→Int} {K:ao} (h:kw d na K) (hd:dG d) (s:Int):∃ a:Nat,cQ K s a:=by
 refine ⟨(min (na s) ((bu s d).length:Int)).toNat,fun n=>?_⟩
 constructor
 ·intro hs
  cases hb:K s n with
  | none=>rw [hb] at hs;cases hs
  | some b =>
   obtain ⟨h1,h2,h3,h4⟩:=(h.val s n b).1 hb
   obtain ⟨h5,h6,_⟩:=(pF hd).1 ⟨h1,h3,h4⟩
   rw [h3,h4] at h2
   omega
 ·intro hn
  have h5:1≤n∧n≤((bu s d).length:Int)∧n≤na s:=by omega
  obtain ⟨h1,h2,h3⟩:=(pF hd).2 ⟨h5.1,h5.2.1,rfl⟩
  rw [(h.val s n _).2 ⟨h1,by rw [h2,h3];exact h5.2.2,h2,h3⟩]
  rfl
theorem Ad {d:List (List Int)} {na nb:Int→Int} {A B:ao} (hd:dG d) (hA:kw d na A) (hB:kw d nb B) {s n:Int} {x y:List Int} (h1:A s n = some x) (h2:B s n = some y):x = y:=by
 obtain ⟨a1,_,a3,a4⟩:=(hA.val s n x).1 h1
 obtain ⟨b1,_,b3,b4⟩:=(hB.val s n y).1 h2
 exact LP hd a1 b1 (a3.trans b3.symm) (a4.trans b4.symm)
theorem Pp {d:List (List Int)} {na nb:Int→Int} {A B:ao} (hd:dG d) (hA:kw d na A) (hB:kw d nb B) {s:Int} {a b:Nat} (ca:cQ A s a) (cb:cQ B s b) {p:Nat} (h1:p≤a) (h2:p≤b):eu A s p = eu B s p:=by
 unfold eu
 congr 1
 unfold lS
 have:∀ l:List Nat,(∀ i∈l,i < p)→(l.flatMap fun i:Nat=>yt ((A s ((i:Int)+1)).getD [])) = l.flatMap fun i:Nat=>yt ((B s ((i:Int)+1)).getD []):=by
  intro l
  induction l with
  | nil=>intro _;rfl
  | cons i l ih =>
   intro hl
   have hi:=hl i (by simp)
   rw [List.flatMap_cons,List.flatMap_cons,ih fun j hj=>hl j (by simp [hj])]
   congr 1
   have e1:=(ca ((i:Int)+1)).2 (by omega)
   have e2:=(cb ((i:Int)+1)).2 (by omega)
   cases hx:A s ((i:Int)+1) with
   | none=>rw [hx] at e1;cases e1
   | some x=>cases hy:B s ((i:Int)+1) with
    | none=>rw [hy] at e2;cases e2
    | some y=>rw [Ad hd hA hB hx hy]
 exact this _ fun i hi=>List.mem_range.1 hi
theorem F0 {d:List (List Int)} {na nb:Int→Int} {A B:ao} (hd:dG d) (hA:kw d na A) (hB:kw d nb B) (oA:aS A) (oB:aS B) {s:Nat} (hs:s < 6) (n:Int):dM B (aG A) s n = aa ((bB A (s:Int):Int) < n):=by
 obtain ⟨a,ca⟩:=hA.len hd (s:Int)
 obtain ⟨b,cb⟩:=hB.len hd (s:Int)
 rw [lm oA B hs,ca.pre oA,cb.pre oB]
 by_cases h:a≤b
 ·rw [Pp hd hB hA cb ca h (Nat.le_refl a),bj.2 rfl,Bool.and_false,Bool.or_false]
 ·rw [bp (p:=(a:Int)≤(b:Int)) (by omega),Bool.false_and,Bool.or_false]
theorem J9 {d:List (List Int)} {na nb:Int→Int} {A B:ao} (hd:dG d) (hA:kw d na A) (hB:kw d nb B) (oA:aS A) (oB:aS B) (s n:Int):cS A B (aG A) s n = (A s n).or (B s n):=by
 by_cases hs:0≤s∧s≤5
 ·obtain ⟨t,rfl⟩:=Int.eq_ofNat_of_zero_le hs.1
  have ht:t < 6:=by omega
  rw [pd oB _ t ht]
  cases hb:B (t:Int) n with
  | none =>
   show A (t:Int) n = _
   cases A (t:Int) n <;> rfl
  | some y =>
   show (if dM B (aG A) t n = true then hZ (A (t:Int) n) y else A (t:Int) n) = _
   rw [F0 hd hA hB oA oB ht]
   cases ha:A (t:Int) n with
   | some x =>
    rw [Ad hd hA hB ha hb]
    split
    ·show (if dP y y = true then some y else some y) = some y
     rw [jL,if_pos rfl]
    ·rfl
   | none =>
    obtain ⟨a,ca⟩:=hA.len hd (t:Int)
    have h1:¬ (A (t:Int) n).isSome = true:=by rw [ha];simp
    rw [ca n] at h1
    have h2:=(oB.rng hb).2.1
    rw [ca.pre oA,aV (by omega),if_pos rfl]
    rfl
 ·have out:∀ {K:ao},aS K→K s n = none:=by
   intro K hK
   cases hk:K s n with
   | none=>rfl
   | some b=>exact absurd (hK.rng hk).1 (by omega)
  rw [out (mB oA oB _),out oA,out oB]
  rfl
theorem GD {d:List (List Int)} {na nb:Int→Int} {A B:ao} (hd:dG d) (hA:kw d na A) (hB:kw d nb B) (oA:aS A) (oB:aS B):Dq A (ct B (aG A)):=by
 refine ⟨fun b hb=>?_,(GX oB _).imp fun h e=>by unfold iz at h;omega⟩
 obtain ⟨s,hs,n,h1,h2⟩:=(pV oB _ b).1 hb
 obtain ⟨_,_,e1,e2⟩:=oB _ _ _ h1
 rw [F0 hd hA hB oA oB hs] at h2
 have h2:=lO h2
 obtain ⟨a,ca⟩:=hA.len hd (s:Int)
 rw [ca.pre oA] at h2
 rw [e1,e2]
 exact B8 fun hh=>by have:=(ca n).1 hh;omega
theorem J7 {d:List (List Int)} {nb:Int→Int} {B:ao} (hB:kw d nb B) (oB:aS B) (inv:List Int):(ct B inv).length≤d.length:=by
 refine List.Nodup.length_le_of_subset ?_ fun b hb=>?_
 ·rw [List.nodup_iff_pairwise_ne]
  exact (GX oB inv).imp fun h e=>by subst e;unfold iz at h;omega
 ·obtain ⟨s,hs,n,h1,_⟩:=(pV oB _ b).1 hb
  exact ((hB.val _ _ _).1 h1).1
theorem F1 {d m:List (List Int)} {na:Int→Int} (hd:dG d) (hm:m = d.filter fun b=>aa ((ah b).Number≤na (ah b).Sender)):kw d na (aR m):=by
 refine ⟨fun s n b=>?_⟩
 refine sm hd (fun b=>(ah b).Number≤na (ah b).Sender) (fun x=>?_) s n b
 rw [hm,List.mem_filter]
 exact ⟨fun h=>⟨h.1,lO h.2⟩,fun h=>⟨h.1,aV h.2⟩⟩
theorem QV {d x y:List (List Int)} {fa fb:Int→Int} (hd:dG d) (hx:x = d.filter fun b=>aa ((ah b).Number≤fa (ah b).Sender)) (hy:y = d.filter fun b=>aa ((ah b).Number≤fb (ah b).Sender)) (na nb:List Int) :
  bM (d.length:Int) d x y na nb = some true:=by
 have h12:=hd.len
 have lx:x.length≤12:=by rw [hx];exact Nat.le_trans (List.length_filter_le _ _) h12
 have ly:y.length≤12:=by rw [hy];exact Nat.le_trans (List.length_filter_le _ _) h12
 have ex:gk x:=fun b hb=>hd.ok b (by rw [hx] at hb;exact (List.mem_filter.1 hb).1)
 have ey:gk y:=fun b hb=>hd.ok b (by rw [hy] at hb;exact (List.mem_filter.1 hb).1)
 obtain ⟨L,ks,vs,f1,hM,_,hK,hk,_⟩:=wz ex (by omega)
 obtain ⟨L',k2,v2,f2,hM',_,hK',hk',_⟩:=wz ey (by omega)
 have pA:=F1 hd hx
 have pB:=F1 hd hy
 have lp:=J7 pA hK (aG (aR y))
 have lq:=J7 pB hK' (aG (aR x))
 have fA:=GD hd pA pB hK hK'
 have fB:=GD hd pB pA hK' hK
 obtain ⟨k2',v2',a1,a2,a3⟩:=Qa (q:=ct (aR y) (aG (aR x))) (ks:=ks) (vs:=vs) (pL hK (aG (aR y))) (by omega) (ct (aR x) (aG (aR y))).length 0 _ k2 v2 (by omega) hK' hM' (by rw [List.drop_zero];exact fB)
 obtain ⟨ks',vs',b1,b2,b3⟩:=Qc (k2:=k2') (v2:=v2') (pL hK' (aG (aR x))) (by omega) (ct (aR y) (aG (aR x))).length 0 _ ks vs (by omega) hK hM (by rw [List.drop_zero];exact fA)
 have same:cS (aR x) (aR y) (aG (aR x)) = cS (aR y) (aR x) (aG (aR y)):=by
  funext s n
  rw [J9 hd pA pB hK hK',J9 hd pB pA hK' hK]
  cases hx:aR x s n with
  | none=>cases aR y s n <;> rfl
  | some u=>cases hy:aR y s n with
   | none=>rfl
   | some w=>rw [Ad hd pA pB hx hy]
 have o1:=mB hK hK' (aG (aR x))
 have cA:∀ s:Nat,s < 6→∃ a,cQ (cS (aR x) (aR y) (aG (aR x))) (s:Int) a:=fun s hs=>by
  obtain ⟨a,ca⟩:=pA.len hd (s:Int)
  obtain ⟨b,cb⟩:=pB.len hd (s:Int)
  obtain ⟨a',b',g1,_⟩:=GZ hK hK' hs ca cb
  exact ⟨a',g1⟩
 have b2:bg (cS (aR x) (aR y) (aG (aR x))) ks' vs':=b2
 have a2:bg (cS (aR y) (aR x) (aG (aR y))) k2' v2':=a2
 rw [← same] at a2
 rw [jh,cJ,cond_false,f1,Option.bind_some,f2,Option.bind_some,ew]
 dsimp only
 rw [Bool.not_true,cond_false,cond_false,Option.bind_some,Bool.not_true,cond_false,aH hK' hM',Option.bind_some]
 dsimp only
 rw [bO hK hM (by omega) (fM _),Option.bind_some,qC hK' hK]
 dsimp only
 rw [aH hK hM,Option.bind_some]
 dsimp only
 rw [bO hK' hM' (by omega) (fM _),Option.bind_some,qC hK hK']
 dsimp only
 rw [bj.2 rfl,cond_false,cond_false,ay (by omega) (by omega),ay (by omega) (by omega),bp (by omega),cond_false]
 refine a1.trans (b1.trans ?_)
 generalize cS (aR x) (aR y) (aG (aR x)) = C at *
 have hm0:ct C (aG C) = []:=by
  refine List.eq_nil_iff_forall_not_mem.2 fun b hb=>?_
  obtain ⟨s,hs,n,h1,h2⟩:=(pV o1 _ b).1 hb
  obtain ⟨a,ca⟩:=cA s hs
  rw [lm o1 C hs,ca.pre o1,bj.2 rfl,Bool.and_false,Bool.or_false] at h2
  have:=lO h2
  have:=(ca n).1 (by rw [h1];rfl)
  omega
 rw [gZ,cJ,cond_false,aH o1 a2,Option.bind_some]
 dsimp only
 rw [bO o1 b2 (by omega) (fM _),Option.bind_some,qC o1 o1,hm0]
 dsimp only
 obtain ⟨r,e1,e2⟩:=yq o1 o1 b2 a2
 rw [e1,Option.bind_some,e2.2 rfl]
 dsimp only
 rw [cond_true,aH o1 b2,Option.bind_some,aH o1 a2,Option.bind_some]
 dsimp only
 rw [dN (fM _) (fM _),decide_eq_true rfl,Option.bind_some,cond_true]
 rfl
theorem Ko {d:List (List Int)} (hd:dG d) {na nb:List Int} (la:na.length = 6) (lb:nb.length = 6):∀ (k i:Nat),i+k = d.length →
  bM (i:Int) d ((d.take i).filter fun b=>aa ((ah b).Number≤gD na (ah b).Sender.toNat 0)) ((d.take i).filter fun b=>aa ((ah b).Number≤gD nb (ah b).Sender.toNat 0)) na nb = some true
 | 0,i,hi=>by
  have:=QV (fa:=fun s=>gD na s.toNat 0) (fb:=fun s=>gD nb s.toNat 0) hd rfl rfl na nb
  rw [show i = d.length by omega,List.take_length]
  exact this
 | k+1,i,hi=>by
  have h12:=hd.len
  have hlt:i < d.length:=by omega
  have hbo:=hd.ok _ (List.getElem_mem hlt)
  have hbl:=fJ hbo.1 hbo.2
  have hr:=At hd (List.getElem_mem hlt)
  have ih:=Ko hd la lb k (i+1) (by omega)
  have lx:((d.take i).filter fun b=>aa ((ah b).Number≤gD na (ah b).Sender.toNat 0)).length≤12:=Nat.le_trans (List.length_filter_le _ _) (by rw [List.length_take];omega)
  have ly:((d.take i).filter fun b=>aa ((ah b).Number≤gD nb (ah b).Sender.toNat 0)).length≤12:=Nat.le_trans (List.length_filter_le _ _) (by rw [List.length_take];omega)
  have tk:∀ p:List Int→Bool,(d.take (i+1)).filter p = if p d[i] = true then (d.take i).filter p++[d[i]] else (d.take i).filter p:=fun p=>by
   rw [← List.take_append_getElem hlt,List.filter_append,List.filter_cons,List.filter_nil]
   split
   ·rfl
   ·rw [List.append_nil]
  rw [tk,tk] at ih
  rw [jh]
  simp only [dj hlt,bH,cond_true,ap,Bool.or_true,cz hlt,co hlt (by omega)]
  rw [nc hbo.1 (by omega),Eu hbo.2,Option.bind_some]
  dsimp only
  rw [bj.2 rfl,cond_false,ab la,ab hr.1,ab (by omega)]
  have tail:∀ x,x.length≤100→bM ((i+1:Nat):Int) d x (if aa ((ah d[i]).Number≤gD nb (ah d[i]).Sender.toNat 0) = true then ((d.take i).filter fun b=>aa ((ah b).Number≤gD nb (ah b).Sender.toNat 0))++[d[i]] else (d.take i).filter fun b=>aa ((ah b).Number≤gD nb (ah b).Sender.toNat 0)) na nb = some true →
    dJ (i:Int) d x ((d.take i).filter fun b=>aa ((ah b).Number≤gD nb (ah b).Sender.toNat 0)) na nb (ah d[i]) = some true:=by
   intro x hx h
   rw [oc,ab lb,ab hr.1,ab (by omega)]
   simp only [dj hlt,bH,cond_true,ap,Bool.or_true,cz hlt,co hlt (by omega)]
   cases hc:aa ((ah d[i]).Number≤gD nb (ah d[i]).Sender.toNat 0) with
   | true =>
    rw [hc,if_pos rfl] at h
    rw [cond_true,ab (by omega),ab (by omega)]
    exact h
   | false =>
    rw [hc,if_neg (by simp)] at h
    rw [cond_false]
    exact h
  cases hc:aa ((ah d[i]).Number≤gD na (ah d[i]).Sender.toNat 0) with
  | true =>
   rw [hc,if_pos rfl] at ih
   rw [cond_true,ab (by omega),ab (by omega)]
   exact tail _ (by rw [List.length_append,List.length_singleton];omega) ih
  | false =>
   rw [hc,if_neg (by simp)] at ih
   rw [cond_false]
   exact tail _ (by omega) ih
theorem Kr {d:List (List Int)} (hd:dG d) (a b:List Int):∀ (k s:Nat) (na nb:List Int),s+k = 6→na.length = 6→nb.length = 6→db a b (s:Int) d na nb = some true
 | 0,s,na,nb,hs,la,lb=>by
  rw [i8,bp (by omega),cond_false]
  exact Ko hd la lb d.length 0 (by omega)
 | k+1,s,na,nb,hs,la,lb=>by
  have ih:=fun na nb=>Kr hd a b k (s+1) na nb (by omega)
  have tail:∀ na nb:List Int,na.length = 6→nb.length = 6→dL a b (s:Int) d na nb = some true:=by
   intro na nb la lb
   rw [o9,ay (by omega) (by omega),show (s:Int)+1 = ((s+1:Nat):Int) by omega]
   by_cases hb:(s:Int) < (b.length:Int)
   ·rw [aV hb,cond_true,bH,ap,ap,bT _ _ (by omega) (by omega),Option.bind_some,ab lb,ap,ab (by omega)]
    exact ih _ _ la (by rw [List.length_set];exact lb)
   ·rw [bp hb,cond_false]
    exact ih _ _ la lb
  have l1:∀ x,(List.set na (s:Int).toNat x).length = 6:=fun x=>by rw [List.length_set];exact la
  have l2:∀ x,(List.set nb (s:Int).toNat x).length = 6:=fun x=>by rw [List.length_set];exact lb
  rw [i8,aV (by omega),cond_true,ab la,bH,ap,ap,ab lb,ap,ap]
  by_cases ha:(s:Int) < (a.length:Int)
  ·rw [aV ha,cond_true,ap,ap,bT _ _ (by omega) (by omega),Option.bind_some,ab (l1 _),ap,ap]
   exact tail _ _ (by rw [List.length_set];exact l1 _) (l2 _)
  ·rw [bp ha,cond_false]
   exact tail _ _ (l1 _) (l2 _)
theorem y4 (l:List GPensionlaw31_Raw) (a b:List Int):ph l a b = some true:=by
 obtain ⟨d,h1,h2,_⟩:=uZ l
 rw [um,h1,Option.bind_some]
 exact Kr h2 a b 6 0 _ _ rfl rfl rfl
end Go.Ax
