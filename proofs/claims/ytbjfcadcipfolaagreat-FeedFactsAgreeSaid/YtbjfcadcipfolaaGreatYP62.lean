import Derived.Test.YtbjfcadcipfolaaGreatYP60
set_option linter.all false
/- What an inventory states;the sanity check of the laws of the feed. -/
set_option maxRecDepth 100000
namespace Go.Ax
theorem O9 (K:ay):∀ (k n:Nat),n+k = 6→((List.range 6).flatMap fun s:Nat=>uE K (s:Int)).drop (6*n) = ((List.range k).map (n+·)).flatMap fun s:Nat=>uE K (s:Int):=by
 intro k n hk
 have e:List.range 6 = List.range n++(List.range k).map (n+·):=by rw [← hk,List.range_add]
 rw [e,List.flatMap_append,List.drop_left' (xH K n)]
theorem QH (K:ay) {s:Nat} (hs:s < 6):∃ r,(mM K).drop (1+6*s) = am (dU K (s:Int)) 2++(am (Eb K (s:Int) (dU K (s:Int))) 4++r):=by
 obtain ⟨k,hk⟩:∃ k,s+(k+1) = 6:=⟨5 - s,by omega⟩
 unfold mM
 rw [show 1+6*s = 6*s+1 by omega,List.drop_succ_cons,O9 K (k+1) s hk,List.range_succ_eq_map,List.map_cons,List.flatMap_cons]
 exact ⟨_,by rw [Nat.add_zero];unfold uE;rw [List.append_assoc]⟩
theorem Ns {K:ay} (hK:bL K) {s:Nat} (hs:s < 6):pI (mM K) s = (dU K (s:Int):Int):=by
 obtain ⟨r,hr⟩:=QH K hs
 have:=rW hK (s:Int)
 unfold pI af
 rw [hr,List.take_left' (av _ _),oZ]
 show (dU K (s:Int):Int) % 65536 = _
 omega
theorem QW {K:ay} (hK:bL K):EX (mM K) = true:=by
 rw [KT (Is K) rfl,DT]
 intro s hs
 rw [Ns hK hs]
 have:=rW hK (s:Int)
 omega
theorem F2 {K:ay} {s:Int} {n:Nat} {b:List Int} {prev:Int} (h:K s (n:Int) = some b) (hp:(ap b).Prev = prev) (k:Nat):gE K s (k+1) n prev = ap b :: gE K s k (n+1) (dS b):=by
 show (match K s (n:Int) with | none=>[] | some b=>if (ap b).Prev = prev then ap b :: gE K s k (n+1) (dS b) else []) = _
 rw [h]
 exact if_pos hp
theorem uQ (r:GRequest):ln r = some (if ga r = true then (da r,true) else ([],false)):=by
 rw [vz,sL,Option.bind_some]
 cases h:ga r with
 | false=>rfl
 | true =>
  have n1:∀ v b,b.length≤100→aS v 1 b = some (b++am v 1):=fun v b hb=>nS v (n:=1) (by omega) b (by omega)
  have n2:∀ v b,b.length≤100→aS v 2 b = some (b++am v 2):=fun v b hb=>nS v (n:=2) (by omega) b (by omega)
  have n5:∀ v b,b.length≤100→aS v 5 b = some (b++am v 5):=fun v b hb=>nS v (n:=5) (by omega) b (by omega)
  rw [show (!true) = false from rfl,cond_false,n1 _ _ (by simp),Option.bind_some,n2 _ _ (by simp [av]),Option.bind_some,n5 _ _ (by simp [av]),Option.bind_some]
  simp [da]
theorem FM {n p:Int} (hn:n = 1∧p = 0∨n = 2∧0≤p∧p < 4294967296):bT ⟨2,n,3,p,da ⟨5,300,70000⟩⟩ = true∧kA ⟨2,n,3,p,da ⟨5,300,70000⟩⟩:=by
 have hb:lI 3 2 (da ⟨5,300,70000⟩) = true:=by decide
 refine ⟨ez.2 ⟨⟨by show (0:Int)≤2;omega,by show (2:Int)≤5;omega⟩, ?_, ?_,hb⟩,(qM _).1, ?_⟩
 ·show 1≤n∧n≤999;omega
 ·show 1 < n∨p = 0;omega
 ·show 0≤p∧p < 4294967296;omega
theorem tT:pF = some true:=by
 rw [DY,AJ,Option.bind_some,uQ,if_pos (by decide),Option.bind_some]
 generalize hbody:da ⟨5,300,70000⟩ = body
 obtain ⟨v1,d1⟩:=FM (n:=1) (p:=0) (.inl ⟨rfl,rfl⟩)
 rw [hbody] at v1 d1
 have hbl:body.length≤1000:=by rw [← hbody];have:=(qM ⟨5,300,70000⟩).2;omega
 dsimp only
 rw [oM d1 (by show body.length≤_;omega),if_pos v1,Option.bind_some]
 obtain ⟨bx,cx,dx⟩:=Dp v1 d1
 generalize fg ⟨2,1,3,0,body⟩ = x at *
 have lx:=po bx cx
 have sx:=qm bx
 dsimp only
 rw [iy bx (by omega) (by omega),Option.bind_some]
 obtain ⟨v2,d2⟩:=FM (n:=2) (p:=dS x) (.inr ⟨rfl,sx.1,sx.2⟩)
 rw [hbody] at v2 d2
 rw [oM d2 (by show body.length≤_;omega),if_pos v2,Option.bind_some]
 obtain ⟨by_,cy,dy⟩:=Dp v2 d2
 generalize fg ⟨2,2,3,dS x,body⟩ = y at *
 have ly:=po by_ cy
 dsimp only
 rw [bQ.2 rfl,cond_false,cond_false]
 obtain ⟨k1,w1,a1,m1,l1⟩:=kZ mR yU by_ (by omega)
 have o1:=zY mR by_
 have e1:pq dJ y = 0:=vd cy rfl
 have K1:cz dJ y = jG dJ 2 2 y:=by unfold cz;rw [if_pos e1,dy]
 rw [a1,Option.bind_some]
 dsimp only
 rw [e1,bQ.2 rfl,cond_false,qa o1 m1,Option.bind_some]
 have h1:eZ (cz dJ y) 2 = []:=Cg (by rw [K1];rfl) _ _
 dsimp only
 rw [h1,show aV ((([]:List GDocument).length:Nat):Int) 0 = false from rfl,cond_false]
 obtain ⟨k2,w2,a2,m2,l2⟩:=kZ o1 m1 bx (by omega)
 have o2:=zY o1 bx
 have e2:pq (cz dJ y) x = 0:=vd cx (by rw [K1,dx];rfl)
 have K2:cz (cz dJ y) x = jG (jG dJ 2 2 y) 2 1 x:=by rw [K1] at e2 ⊢; unfold cz;rw [if_pos e2,dx]
 generalize cz (cz dJ y) x = K at *
 have q1:K 2 1 = some x:=by rw [K2];rfl
 have q2:K 2 2 = some y:=by rw [K2];rfl
 have q3:K 2 3 = none:=by rw [K2];rfl
 rw [a2,Option.bind_some]
 dsimp only
 rw [e2,bQ.2 rfl,cond_false,qa o2 m2,Option.bind_some]
 have h2:eZ K 2 = [ap x,ap y]:=by
  unfold eZ
  rw [F2 (n:=1) (k:=999) q1 (by rw [dx]),F2 (n:=2) (k:=998) q2 (by rw [dy]),Cg (n:=3) q3]
 dsimp only
 rw [h2,show aV ((([ap x,ap y]:List GDocument).length:Nat):Int) 2 = false from rfl,cond_false,iS o2 m2,Option.bind_some]
 have hp:dU K 2 = 2:=FW o2 2 (fun n h1 h2=>by
  rcases (by omega:n = 1∨n = 2) with rfl | rfl
  ·show (K 2 1).isSome = true;rw [q1];rfl
  ·show (K 2 2).isSome = true;rw [q2];rfl) q3
 dsimp only
 rw [hp,show aV ((2:Nat):Int) 2 = false from rfl,cond_false,Option.bind_some]
 dsimp only
 rw [dM mR yU,Option.bind_some]
 dsimp only
 rw [uW o2 m2 (by simp at l1;omega) (EV _),Option.bind_some]
 have hm:C6 K (mM dJ) = ([x,y],0):=by
  unfold C6
  rw [if_pos (QW mR)]
  have nn:∀ s:Int,s≠2→eH K s = []:=fun s hs=>by
   refine List.eq_nil_iff_forall_not_mem.2 fun n hn=>?_
   have:=(y9 o2 s n).1 hn
   rw [K2] at this
   unfold jG dJ at this
   rw [if_neg (fun h=>hs h.1),if_neg (fun h=>hs h.1)] at this
   cases this
  have n2:eH K 2 = [1,2]:=by
   refine Iq (FE K 2) (by decide) fun n=>?_
   rw [y9 o2,K2]
   unfold jG dJ
   by_cases h1:n = 1
   ·subst h1;simp
   ·by_cases h2:n = 2
    ·subst h2;simp
    ·rw [if_neg (fun h=>h1 h.2),if_neg (fun h=>h2 h.2)]
     simp [h1,h2]
  have m0:∀ s:Nat,(s:Int)≠2→nL K (mM dJ) s = []:=fun s hs=>by unfold nL;rw [nn _ hs];rfl
  have m2:nL K (mM dJ) 2 = [x,y]:=by
   unfold nL
   have p0:pI (mM dJ) 2 = 0:=by rw [Ns mR (by omega)];rfl
   rw [show ((2:Nat):Int) = 2 from rfl,n2]
   have w:∀ n:Int,0 < n→wr K (mM dJ) 2 n = true:=fun n hn=>by unfold wr;rw [p0,aT hn];rfl
   rw [List.filter_cons,if_pos (w 1 (by omega)),List.filter_cons,if_pos (w 2 (by omega)),List.filter_nil,List.map_cons,List.map_cons,List.map_nil,q1,q2]
   rfl
  unfold Cr
  rw [show List.range 6 = [0,1,2,3,4,5] from rfl]
  simp only [List.flatMap_cons,List.flatMap_nil]
  rw [m0 0 (by decide),m0 1 (by decide),m2,m0 3 (by decide),m0 4 (by decide),m0 5 (by decide)]
  rfl
 rw [hm]
 dsimp only
 rw [gn,cond_true,aY.2 (show (([x,y]:List (List Int)).length:Int) = 2 from rfl),cond_true,ab (by simp)]
 show (mh x x).bind _ = _
 rw [ud bx bx,Option.bind_some,decide_eq_true rfl,cond_true,dM o2 m2,Option.bind_some]
 dsimp only
 rw [Is]
 rfl
end Go.Ax
