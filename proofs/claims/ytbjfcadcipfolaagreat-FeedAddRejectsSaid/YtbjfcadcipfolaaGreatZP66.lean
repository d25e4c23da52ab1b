import Derived.Test.YtbjfcadcipfolaaGreatZP65
set_option linter.all false
/- What one feed adds of what the other one sends;forged chains agree after two exchanges. -/
set_option maxRecDepth 100000
namespace Go.Ax
theorem pV {K:ao} (hK:aS K) (inv:List Int) (b:List Int):b∈ct K inv↔∃ s:Nat,s < 6∧∃ n,K (s:Int) n = some b∧dM K inv s n = true:=by
 unfold ct
 rw [List.mem_flatMap]
 constructor
 ·rintro ⟨s,hs,hb⟩
  obtain ⟨n,hn,rfl⟩:=List.mem_map.1 hb
  obtain ⟨h1,h2⟩:=List.mem_filter.1 hn
  refine ⟨s,List.mem_range.1 hs,n, ?_,h2⟩
  cases hk:K (s:Int) n with
  | none=>have:=(bX hK _ _).1 h1;rw [hk] at this;cases this
  | some b=>rfl
 ·rintro ⟨s,hs,n,h1,h2⟩
  refine ⟨s,List.mem_range.2 hs,List.mem_map.2 ⟨n,List.mem_filter.2 ⟨(bX hK _ _).2 (by rw [h1];rfl),h2⟩,by rw [h1];rfl⟩⟩
theorem pL {K:ao} (hK:aS K) (inv:List Int):gk (ct K inv):=fun b hb=>by
 obtain ⟨s,_,n,h1,_⟩:=(pV hK inv b).1 hb
 exact ⟨(hK _ _ _ h1).1,(hK _ _ _ h1).2.1⟩
def cS (A B:ao) (inv:List Int):ao:=(ct B inv).foldl bK A
theorem mB {A B:ao} (hA:aS A) (hB:aS B) (inv:List Int):aS (cS A B inv):=Ki (fun b hb=>(pL hB inv b hb).1) hA
theorem pd {A B:ao} (hB:aS B) (inv:List Int) (s:Nat) (hs:s < 6) (n:Int):cS A B inv (s:Int) n = match B (s:Int) n with
  | some b=>if dM B inv s n = true then hZ (A (s:Int) n) b else A (s:Int) n
  | none=>A (s:Int) n:=by
 have e:=FH (ct B inv) A (fun b hb=>(pL hB inv b hb).2) (s:Int) n
 obtain ⟨i1,i2⟩:=CB ((ct B inv).filter (n7 (s:Int) n)) (A (s:Int) n)
 unfold cS
 rw [e]
 have only:∀ c∈(ct B inv).filter (n7 (s:Int) n),B (s:Int) n = some c∧dM B inv s n = true:=by
  intro c hc
  obtain ⟨c1,c2⟩:=List.mem_filter.1 hc
  obtain ⟨t,ht,m,k1,k2⟩:=(pV hB inv c).1 c1
  obtain ⟨_,_,k3,k4⟩:=hB _ _ _ k1
  have c2:=sO.1 c2
  have e1:t = s:=by omega
  have e2:m = n:=by omega
  subst e1 e2
  exact ⟨k1,k2⟩
 have nohit:(∀ c,c ∉ (ct B inv).filter (n7 (s:Int) n))→((ct B inv).filter (n7 (s:Int) n)).foldl hZ (A (s:Int) n) = A (s:Int) n:=fun h=>by
  rw [List.eq_nil_iff_forall_not_mem.2 h];rfl
 cases hb:B (s:Int) n with
 | none=>exact nohit fun c hc=>by have:=(only c hc).1;rw [hb] at this;cases this
 | some b =>
  cases hw:dM B inv s n with
  | false=>exact nohit fun c hc=>by have:=(only c hc).2;rw [hw] at this;cases this
  | true =>
   show _ = hZ (A (s:Int) n) b
   have hbm:b∈(ct B inv).filter (n7 (s:Int) n):=List.mem_filter.2 ⟨(pV hB inv b).2 ⟨s,hs,n,hb,hw⟩,sO.2 (hB _ _ _ hb).2.2⟩
   cases hr:((ct B inv).filter (n7 (s:Int) n)).foldl hZ (A (s:Int) n) with
   | none=>rw [(i1 hr).2] at hbm;cases hbm
   | some m =>
    obtain ⟨j1,j2,j3⟩:=i2 m hr
    have hmb:m = b∨A (s:Int) n = some m:=by
     rcases j1 with j1 | j1
     ·have:=(only m j1).1
      rw [hb] at this
      injection this with this
      exact .inl this.symm
     ·exact .inr j1
    have hle:=j2 b hbm
    cases ha:A (s:Int) n with
    | none =>
     rcases hmb with rfl | hh
     ·rfl
     ·rw [ha] at hh;cases hh
    | some a =>
     have hla:=j3 a ha
     show some m = if dP a b = true then some a else some b
     cases hab:dP a b with
     | true =>
      rw [if_pos rfl]
      rcases hmb with rfl | hh
      ·rw [tH hla hab]
      ·rw [ha] at hh;exact hh.symm
     | false =>
      rw [if_neg (by simp)]
      rcases hmb with rfl | hh
      ·rfl
      ·rw [ha] at hh
       injection hh with hh
       subst hh
       rw [hle] at hab
       cases hab
theorem lm {A:ao} (hA:aS A) (B:ao) {s:Nat} (hs:s < 6) (n:Int):dM B (aG A) s n = (aa ((bB A (s:Int):Int) < n)||(aa ((bB A (s:Int):Int)≤(bB B (s:Int):Int))&&aQ (eu B (s:Int) (bB A (s:Int))) (eu A (s:Int) (bB A (s:Int))))):=by
 unfold dM vS
 rw [Ac hA hs,HX hs,Int.toNat_natCast]
def cQ (K:ao) (s:Int) (a:Nat):Prop:=∀ n:Int,(K s n).isSome = true↔1≤n∧n≤(a:Int)
theorem B8 {T:Type} {o:Option T} (h:¬ o.isSome = true):o = none:=by
 cases o with
 | none=>rfl
 | some x=>exact absurd rfl h
theorem cQ.pre {K:ao} {s:Int} {a:Nat} (h:cQ K s a) (hK:aS K):bB K s = a :=
 G3 hK s (fun n h1 h2=>(h _).2 ⟨by omega,by omega⟩) (B8 fun hh=>by have:=(h _).1 hh;omega)
def Fd (A B:ao) (s:Int):Prop:=bB A s = bB B s∧eu A s (bB A s) = eu B s (bB B s)
theorem Am {A B:ao} {s:Int} (h:A s = B s) (p:Nat):eu A s p = eu B s p:=by unfold eu lS;rw [h]
theorem NR (x y:List Int):hZ (some x) y = hZ (some y) x:=by
 show (if dP x y = true then some x else some y) = if dP y x = true then some y else some x
 cases h1:dP x y <;> cases h2:dP y x
 ·have:=Ar x y;rw [h1,h2] at this;rcases this with h | h <;> cases h
 ·rfl
 ·rfl
 ·rw [if_pos rfl,if_pos rfl,tH h1 h2]
theorem EO (o:Option (List Int)) (b:List Int):(hZ o b).isSome = true:=by
 obtain ⟨m,h,_⟩:=Ix o b
 rw [h];rfl
theorem IJ {A B:ao} (hA:aS A) (hB:aS B) {s:Nat} (hs:s < 6) {a b:Nat} (ha:cQ A (s:Int) a) (hb:cQ B (s:Int) b) (hab:a < b):cQ (cS A B (aG A)) (s:Int) b∧cQ (cS B A (aG B)) (s:Int) b:=by
 have pa:=ha.pre hA
 have pb:=hb.pre hB
 refine ⟨fun n=>?_,fun n=>?_⟩
 ·rw [pd hB _ s hs]
  cases hbn:B (s:Int) n with
  | none =>
   have h1:¬ (B (s:Int) n).isSome = true:=by rw [hbn];simp
   rw [hb n] at h1
   show (A (s:Int) n).isSome = true↔_
   rw [ha n]
   omega
  | some y =>
   have h1:(B (s:Int) n).isSome = true:=by rw [hbn];rfl
   have h2:=(hb n).1 h1
   refine ⟨fun _=>h2,fun _=>?_⟩
   show (if dM B (aG A) s n = true then hZ (A (s:Int) n) y else A (s:Int) n).isSome = true
   split
   ·exact EO _ _
   ·next hw =>
    rw [ha n]
    refine ⟨h2.1, ?_⟩
    refine Classical.byContradiction fun hlt=>hw ?_
    rw [lm hA B hs,aV (by omega)]
    rfl
 ·rw [pd hA _ s hs]
  cases han:A (s:Int) n with
  | none=>exact hb n
  | some y =>
   have h1:(A (s:Int) n).isSome = true:=by rw [han];rfl
   have h2:=(ha n).1 h1
   show (if dM A (aG B) s n = true then hZ (B (s:Int) n) y else B (s:Int) n).isSome = true↔_
   rw [lm hB A hs,bp (by omega),bp (by omega),if_neg (by simp)]
   exact hb n
theorem Cu {A B:ao} (hA:aS A) (hB:aS B) {s:Nat} (hs:s < 6) {a:Nat} (ha:cQ A (s:Int) a) (hb:cQ B (s:Int) a):cQ (cS A B (aG A)) (s:Int) a∧cQ (cS B A (aG B)) (s:Int) a∧Fd (cS A B (aG A)) (cS B A (aG B)) (s:Int):=by
 have pa:=ha.pre hA
 have pb:=hb.pre hB
 have c1:cQ (cS A B (aG A)) (s:Int) a:=by
  intro n
  rw [pd hB _ s hs]
  cases hbn:B (s:Int) n with
  | none=>exact ha n
  | some y =>
   have h2:=(hb n).1 (by rw [hbn];rfl)
   refine ⟨fun _=>h2,fun _=>?_⟩
   show (if dM B (aG A) s n = true then hZ (A (s:Int) n) y else A (s:Int) n).isSome = true
   split
   ·exact EO _ _
   ·exact (ha n).2 h2
 have c2:cQ (cS B A (aG B)) (s:Int) a:=by
  intro n
  rw [pd hA _ s hs]
  cases hbn:A (s:Int) n with
  | none=>exact hb n
  | some y =>
   have h2:=(ha n).1 (by rw [hbn];rfl)
   refine ⟨fun _=>h2,fun _=>?_⟩
   show (if dM A (aG B) s n = true then hZ (B (s:Int) n) y else B (s:Int) n).isSome = true
   split
   ·exact EO _ _
   ·exact (hb n).2 h2
 have hA':=mB hA hB (aG A)
 have hB':=mB hB hA (aG B)
 refine ⟨c1,c2,(c1.pre hA').trans (c2.pre hB').symm, ?_⟩
 rw [c1.pre hA',c2.pre hB']
 by_cases hd:eu A (s:Int) a = eu B (s:Int) a
 ·have e1:cS A B (aG A) (s:Int) = A (s:Int):=by
   funext n
   rw [pd hB _ s hs]
   cases hbn:B (s:Int) n with
   | none=>rfl
   | some y =>
    have h2:=(hb n).1 (by rw [hbn];rfl)
    show (if dM B (aG A) s n = true then hZ (A (s:Int) n) y else A (s:Int) n) = _
    rw [lm hA B hs,pa,bp (by omega),bj.2 hd.symm,Bool.and_false,if_neg (by simp)]
  have e2:cS B A (aG B) (s:Int) = B (s:Int):=by
   funext n
   rw [pd hA _ s hs]
   cases hbn:A (s:Int) n with
   | none=>rfl
   | some y =>
    have h2:=(ha n).1 (by rw [hbn];rfl)
    show (if dM A (aG B) s n = true then hZ (B (s:Int) n) y else B (s:Int) n) = _
    rw [lm hB A hs,pb,bp (by omega),bj.2 hd,Bool.and_false,if_neg (by simp)]
  rw [Am e1,Am e2,hd]
 ·refine Am ?_ a
  funext n
  rw [pd hB _ s hs,pd hA _ s hs]
  have w1:dM B (aG A) s n = true:=by
   rw [lm hA B hs,pa,pb,aV (Int.le_refl _),bS.2 (fun h=>hd h.symm),Bool.and_self,Bool.or_true]
  have w2:dM A (aG B) s n = true:=by
   rw [lm hB A hs,pa,pb,aV (Int.le_refl _),bS.2 hd,Bool.and_self,Bool.or_true]
  rw [w1,w2]
  cases han:A (s:Int) n with
  | none =>
   have h1:¬ (A (s:Int) n).isSome = true:=by rw [han];simp
   rw [ha n, ← hb n] at h1
   rw [B8 h1]
  | some x =>
   have h1:=(hb n).2 ((ha n).1 (by rw [han];rfl))
   cases hbn:B (s:Int) n with
   | none=>rw [hbn] at h1;cases h1
   | some y=>exact NR x y
theorem GZ {A B:ao} (hA:aS A) (hB:aS B) {s:Nat} (hs:s < 6) {a b:Nat} (ha:cQ A (s:Int) a) (hb:cQ B (s:Int) b):∃ a' b',cQ (cS A B (aG A)) (s:Int) a'∧cQ (cS B A (aG B)) (s:Int) b'∧a' = b'∧(a = b→Fd (cS A B (aG A)) (cS B A (aG B)) (s:Int)):=by
 rcases Nat.lt_trichotomy a b with h | h | h
 ·obtain ⟨h1,h2⟩:=IJ hA hB hs ha hb h
  exact ⟨b,b,h1,h2,rfl,fun e=>by omega⟩
 ·subst h
  obtain ⟨h1,h2,h3⟩:=Cu hA hB hs ha hb
  exact ⟨a,a,h1,h2,rfl,fun _=>h3⟩
 ·obtain ⟨h1,h2⟩:=IJ hB hA hs hb ha h
  exact ⟨a,a,h2,h1,rfl,fun e=>by omega⟩
theorem Ld {round:Int} {p q:List (List Int)} (hp:gk p) (hpl:p.length≤10000) {ks vs}:∀ (m i:Nat) (B:ao) (k2:List Fk) (v2:List (List Int)),p.length = i+m→aS B→bg B k2 v2 →
  ∃ k2' v2',cn round p q (i:Int) ks vs k2 v2 = bC round q 0 ks vs k2' v2'∧bg ((p.drop i).foldl bK B) k2' v2'∧k2'.length≤k2.length+m
 | 0,i,B,k2,v2,hi,hB,hM=>by
  have hi:i = p.length:=by omega
  subst hi
  refine ⟨k2,v2, ?_,by simpa using hM,by omega⟩
  rw [eP,cJ,cond_false]
 | m+1,i,B,k2,v2,hi,hB,hM=>by
  have hlt:i < p.length:=by omega
  have hb:=hp _ (List.getElem_mem hlt)
  have hbl:=fJ hb.1 hb.2
  obtain ⟨k3,v3,a1,a2,a3⟩:=cc hB hM hb.1 (by omega)
  obtain ⟨k2',v2',c1,c2,c3⟩:=Ld hp hpl (ks:=ks) (vs:=vs) (q:=q) (round:=round) m (i+1) _ k3 v3 (by omega) (lZ hB hb.1) a2
  refine ⟨k2',v2', ?_,by rw [List.drop_eq_getElem_cons hlt,List.foldl_cons];exact c2,by omega⟩
  rw [eP]
  simp only [dj hlt,bH,cond_true,ap,Bool.or_true,cz hlt,co hlt (by omega)]
  rw [a1,Option.bind_some]
  exact c1
theorem LC {round:Int} {q:List (List Int)} (hq:gk q) (hql:q.length≤10000) {k2 v2}:∀ (m i:Nat) (A:ao) (ks:List Fk) (vs:List (List Int)),q.length = i+m→aS A→bg A ks vs →
  ∃ ks' vs',bC round q (i:Int) ks vs k2 v2 = br (ac (round+1)) ks' vs' k2 v2∧bg ((q.drop i).foldl bK A) ks' vs'∧ks'.length≤ks.length+m
 | 0,i,A,ks,vs,hi,hA,hM=>by
  have hi:i = q.length:=by omega
  subst hi
  refine ⟨ks,vs, ?_,by simpa using hM,by omega⟩
  rw [eM,cJ,cond_false]
 | m+1,i,A,ks,vs,hi,hA,hM=>by
  have hlt:i < q.length:=by omega
  have hb:=hq _ (List.getElem_mem hlt)
  have hbl:=fJ hb.1 hb.2
  obtain ⟨k3,v3,a1,a2,a3⟩:=cc hA hM hb.1 (by omega)
  obtain ⟨ks',vs',c1,c2,c3⟩:=LC hq hql (k2:=k2) (v2:=v2) (round:=round) m (i+1) _ k3 v3 (by omega) (lZ hA hb.1) a2
  refine ⟨ks',vs', ?_,by rw [List.drop_eq_getElem_cons hlt,List.foldl_cons];exact c2,by omega⟩
  rw [eM]
  simp only [dj hlt,bH,cond_true,ap,Bool.or_true,cz hlt,co hlt (by omega)]
  rw [a1,Option.bind_some]
  exact c1
theorem qC {A B:ao} (hA:aS A) (hB:aS B):kC B (aG A) = (ct B (aG A),0):=by
 unfold kC
 rw [if_pos (NF hA)]
theorem vz {A B:ao} {ks vs k2 v2} (hA:aS A) (hB:aS B) (hM:bg A ks vs) (hM2:bg B k2 v2) (h1:ks.length≤90000) (h2:k2.length≤90000) {r:Int} (hr:0≤r∧r < 3) :
  ∃ ks' vs' k2' v2',br r ks vs k2 v2 = br (r+1) ks' vs' k2' v2'∧bg (cS A B (aG A)) ks' vs'∧bg (cS B A (aG B)) k2' v2'∧ks'.length≤ks.length+5994∧k2'.length≤k2.length+5994:=by
 have lp:(ct A (aG B)).length≤5994:=tA A (aG B) 6
 have lq:(ct B (aG A)).length≤5994:=tA B (aG A) 6
 obtain ⟨k2',v2',a1,a2,a3⟩:=Ld (round:=r) (q:=ct B (aG A)) (ks:=ks) (vs:=vs) (pL hA (aG B)) (by omega) (ct A (aG B)).length 0 B k2 v2 (by omega) hB hM2
 obtain ⟨ks',vs',b1,b2,b3⟩:=LC (round:=r) (k2:=k2') (v2:=v2') (pL hB (aG A)) (by omega) (ct B (aG A)).length 0 A ks vs (by omega) hA hM
 refine ⟨ks',vs',k2',v2', ?_,b2,a2,by omega,by omega⟩
 rw [fQ,aV hr.2,cond_true,aH hB hM2,Option.bind_some]
 dsimp only
 rw [bO hA hM (by omega) (fM _),Option.bind_some,qC hB hA]
 dsimp only
 rw [aH hA hM,Option.bind_some]
 dsimp only
 rw [bO hB hM2 (by omega) (fM _),Option.bind_some,qC hA hB]
 dsimp only
 rw [bj.2 rfl,cond_false,cond_false]
 rw [ay (by omega) (by omega)] at b1
 exact a1.trans b1
theorem Af {d:List (List Int)} (h:dG d) (s:Int):cQ (aR d) s (bu s d).length:=by
 intro n
 have key:=sm h (fun _=>True) (m:=d) (fun x=>by simp) s n
 constructor
 ·intro hs
  cases hb:aR d s n with
  | none=>rw [hb] at hs;cases hs
  | some b =>
   obtain ⟨h1,_,h2⟩:=(key b).1 hb
   obtain ⟨h3,h4,_⟩:=(pF h).1 ⟨h1,h2⟩
   exact ⟨h3,h4⟩
 ·rintro ⟨h3,h4⟩
  obtain ⟨h1,h2⟩:=(pF h).2 ⟨h3,h4,rfl⟩
  rw [(key _).2 ⟨h1,trivial,h2⟩]
  rfl
theorem tl (l:List GPensionlaw31_Raw):∃ d L ks vs,dU l = some d∧cB d = some (true,d,⟨L⟩,ks,vs)∧dG d∧bg (aR d) ks vs∧di (aR d) L∧aS (aR d)∧ks.length≤24∧L.length≤24:=by
 obtain ⟨d,h1,h2,_⟩:=uZ l
 have:=h2.len
 obtain ⟨L,ks,vs,g1,g2,g3,g4,g5,g6⟩:=wz h2.ok (by omega)
 exact ⟨d,L,ks,vs,h1,g1,h2,g2,g3,g4,g5,g6⟩
theorem sk (l k:List GPensionlaw31_Raw):jw l k = some true:=by
 obtain ⟨d,L,ks,vs,h1,h2,h3,hM,_,hK,hk,_⟩:=tl l
 obtain ⟨d',L',ks',vs',h1',h2',h3',hM',_,hK',hk',_⟩:=tl k
 rw [oO,h1,Option.bind_some,h2,Option.bind_some,h1',Option.bind_some,h2',Option.bind_some,ew]
 dsimp only
 rw [Bool.not_true,cond_false,cond_false,Option.bind_some,Bool.not_true,cond_false]
 have c0:=Af h3
 have c0':=Af h3'
 generalize hA:aR d = A at *
 generalize hB:aR d' = B at *
 obtain ⟨k1,v1,w1,x1,e1,m1,n1,l1,q1⟩:=vz hK hK' hM hM' (by omega) (by omega) (r:=0) (by omega)
 have o1:=mB hK hK' (aG A)
 have p1:=mB hK' hK (aG B)
 have st1:∀ s:Nat,s < 6→∃ a,cQ (cS A B (aG A)) (s:Int) a∧cQ (cS B A (aG B)) (s:Int) a:=fun s hs=>by
  obtain ⟨a',b',g1,g2,g3,_⟩:=GZ hK hK' hs (c0 _) (c0' _)
  subst g3
  exact ⟨a',g1,g2⟩
 generalize cS A B (aG A) = A1 at *
 generalize cS B A (aG B) = B1 at *
 obtain ⟨k2,v2,w2,x2,e2,m2,n2,l2,q2⟩:=vz o1 p1 m1 n1 (by omega) (by omega) (r:=0+1) (by omega)
 have o2:=mB o1 p1 (aG A1)
 have p2:=mB p1 o1 (aG B1)
 have st2:∀ s:Nat,s < 6→∃ a,cQ (cS A1 B1 (aG A1)) (s:Int) a∧cQ (cS B1 A1 (aG B1)) (s:Int) a:=fun s hs=>by
  obtain ⟨a,ha,hb⟩:=st1 s hs
  obtain ⟨h1,h2,_⟩:=Cu o1 p1 hs ha hb
  exact ⟨a,h1,h2⟩
 generalize cS A1 B1 (aG A1) = A2 at *
 generalize cS B1 A1 (aG B1) = B2 at *
 obtain ⟨k3,v3,w3,x3,e3,m3,n3,l3,q3⟩:=vz o2 p2 m2 n2 (by omega) (by omega) (r:=0+1+1) (by omega)
 have o3:=mB o2 p2 (aG A2)
 have p3:=mB p2 o2 (aG B2)
 have st3:∀ s:Nat,s < 6→Fd (cS A2 B2 (aG A2)) (cS B2 A2 (aG B2)) (s:Int):=fun s hs=>by
  obtain ⟨a,ha,hb⟩:=st2 s hs
  exact (Cu o2 p2 hs ha hb).2.2
 generalize cS A2 B2 (aG A2) = A3 at *
 generalize cS B2 A2 (aG B2) = B3 at *
 refine ((e1.trans e2).trans e3).trans ?_
 rw [fQ,bp (by omega),cond_false,aH o3 m3,Option.bind_some,aH p3 n3,Option.bind_some]
 dsimp only
 rw [(QS o3 p3).2 st3,dN (fM _) (fM _),decide_eq_true rfl]
 rfl
end Go.Ax
