import Derived.Test.YtbjfcadcipfolaaGreatZP60
set_option linter.all false
/- What an inventory states;the sanity check of the laws of the feed. -/
set_option maxRecDepth 100000
namespace Go.Ax
theorem Lf (K:av):∀ (k n:Nat),n+k = 6→((List.range 6).flatMap fun s:Nat=>oq K (s:Int)).drop (6*n) = ((List.range k).map (n+·)).flatMap fun s:Nat=>oq K (s:Int):=by
 intro k n hk
 have e:List.range 6 = List.range n++(List.range k).map (n+·):=by rw [← hk,List.range_add]
 rw [e,List.flatMap_append,List.drop_left' (pO K n)]
theorem M9 (K:av) {s:Nat} (hs:s < 6):∃ r,(ju K).drop (1+6*s) = aq (cJ K (s:Int)) 2++(aq (rQ K (s:Int) (cJ K (s:Int))) 4++r):=by
 obtain ⟨k,hk⟩:∃ k,s+(k+1) = 6:=⟨5 - s,by omega⟩
 unfold ju
 rw [show 1+6*s = 6*s+1 by omega,List.drop_succ_cons,Lf K (k+1) s hk,List.range_succ_eq_map,List.map_cons,List.flatMap_cons]
 exact ⟨_,by rw [Nat.add_zero];unfold oq;rw [List.append_assoc]⟩
theorem J9 {K:av} (hK:bz K) {s:Nat} (hs:s < 6):pI (ju K) s = (cJ K (s:Int):Int):=by
 obtain ⟨r,hr⟩:=M9 K hs
 have:=lg hK (s:Int)
 unfold pI aj
 rw [hr,List.take_left' (ay _ _),sJ]
 show (cJ K (s:Int):Int) % 65536 = _
 omega
theorem MY {K:av} (hK:bz K):Bv (ju K) = true:=by
 rw [GR (DF K) rfl,Bd]
 intro s hs
 rw [J9 hK hs]
 have:=lg hK (s:Int)
 omega
theorem CN {K:av} {s:Int} {n:Nat} {b:List Int} {prev:Int} (h:K s (n:Int) = some b) (hp:(an b).Prev = prev) (k:Nat):fG K s (k+1) n prev = an b :: fG K s k (n+1) (dl b):=by
 show (match K s (n:Int) with | none=>[] | some b=>if (an b).Prev = prev then an b :: fG K s k (n+1) (dl b) else []) = _
 rw [h]
 exact if_pos hp
theorem rx (r:GRequest):jM r = some (if fw r = true then (cD r,true) else ([],false)):=by
 rw [sE,pu,Option.bind_some]
 cases h:fw r with
 | false=>rfl
 | true =>
  have n1:∀ v b,b.length≤100→aQ v 1 b = some (b++aq v 1):=fun v b hb=>l9 v (n:=1) (by omega) b (by omega)
  have n2:∀ v b,b.length≤100→aQ v 2 b = some (b++aq v 2):=fun v b hb=>l9 v (n:=2) (by omega) b (by omega)
  have n5:∀ v b,b.length≤100→aQ v 5 b = some (b++aq v 5):=fun v b hb=>l9 v (n:=5) (by omega) b (by omega)
  rw [show (!true) = false from rfl,cond_false,n1 _ _ (by simp),Option.bind_some,n2 _ _ (by simp [ay]),Option.bind_some,n5 _ _ (by simp [ay]),Option.bind_some]
  simp [cD]
theorem Cw {n p:Int} (hn:n = 1∧p = 0∨n = 2∧0≤p∧p < 4294967296):cV ⟨2,n,3,p,cD ⟨5,300,70000⟩⟩ = true∧t7 ⟨2,n,3,p,cD ⟨5,300,70000⟩⟩:=by
 have hb:l5 3 2 (cD ⟨5,300,70000⟩) = true:=by decide
 refine ⟨ij.2 ⟨⟨by show (0:Int)≤2;omega,by show (2:Int)≤5;omega⟩, ?_, ?_,hb⟩,(ov _).1, ?_⟩
 ·show 1≤n∧n≤999;omega
 ·show 1 < n∨p = 0;omega
 ·show 0≤p∧p < 4294967296;omega
theorem zb:rD = some true:=by
 rw [BZ,xK,Option.bind_some,rx,if_pos (by decide),Option.bind_some]
 generalize hbody:cD ⟨5,300,70000⟩ = body
 obtain ⟨v1,d1⟩:=Cw (n:=1) (p:=0) (.inl ⟨rfl,rfl⟩)
 rw [hbody] at v1 d1
 have hbl:body.length≤1000:=by rw [← hbody];have:=(ov ⟨5,300,70000⟩).2;omega
 dsimp only
 rw [mG d1 (by show body.length≤_;omega),if_pos v1,Option.bind_some]
 obtain ⟨bx,cx,dx⟩:=EO v1 d1
 generalize eI ⟨2,1,3,0,body⟩ = x at *
 have lx:=mT bx cx
 have sx:=nC bx
 dsimp only
 rw [fN bx (by omega) (by omega),Option.bind_some]
 obtain ⟨v2,d2⟩:=Cw (n:=2) (p:=dl x) (.inr ⟨rfl,sx.1,sx.2⟩)
 rw [hbody] at v2 d2
 rw [mG d2 (by show body.length≤_;omega),if_pos v2,Option.bind_some]
 obtain ⟨by_,cy,dy⟩:=EO v2 d2
 generalize eI ⟨2,2,3,dl x,body⟩ = y at *
 have ly:=mT by_ cy
 dsimp only
 rw [bW.2 rfl,cond_false,cond_false]
 obtain ⟨k1,w1,a1,m1,l1⟩:=gc kZ vr by_ (by omega)
 have o1:=sB kZ by_
 have e1:mN ew y = 0:=wU cy rfl
 have K1:cT ew y = iR ew 2 2 y:=by unfold cT;rw [if_pos e1,dy]
 rw [a1,Option.bind_some]
 dsimp only
 rw [e1,bW.2 rfl,cond_false,jk o1 m1,Option.bind_some]
 have h1:nt (cT ew y) 2 = []:=yd (by rw [K1];rfl) _ _
 dsimp only
 rw [h1,show aT ((([]:List GDocument).length:Nat):Int) 0 = false from rfl,cond_false]
 obtain ⟨k2,w2,a2,m2,l2⟩:=gc o1 m1 bx (by omega)
 have o2:=sB o1 bx
 have e2:mN (cT ew y) x = 0:=wU cx (by rw [K1,dx];rfl)
 have K2:cT (cT ew y) x = iR (iR ew 2 2 y) 2 1 x:=by rw [K1] at e2 ⊢; unfold cT;rw [if_pos e2,dx]
 generalize cT (cT ew y) x = K at *
 have q1:K 2 1 = some x:=by rw [K2];rfl
 have q2:K 2 2 = some y:=by rw [K2];rfl
 have q3:K 2 3 = none:=by rw [K2];rfl
 rw [a2,Option.bind_some]
 dsimp only
 rw [e2,bW.2 rfl,cond_false,jk o2 m2,Option.bind_some]
 have h2:nt K 2 = [an x,an y]:=by
  unfold nt
  rw [CN (n:=1) (k:=999) q1 (by rw [dx]),CN (n:=2) (k:=998) q2 (by rw [dy]),yd (n:=3) q3]
 dsimp only
 rw [h2,show aT ((([an x,an y]:List GDocument).length:Nat):Int) 2 = false from rfl,cond_false,eE o2 m2,Option.bind_some]
 have hp:cJ K 2 = 2:=CO o2 2 (fun n h1 h2=>by
  rcases (by omega:n = 1∨n = 2) with rfl | rfl
  ·show (K 2 1).isSome = true;rw [q1];rfl
  ·show (K 2 2).isSome = true;rw [q2];rfl) q3
 dsimp only
 rw [hp,show aT ((2:Nat):Int) 2 = false from rfl,cond_false,Option.bind_some]
 dsimp only
 rw [fp kZ vr,Option.bind_some]
 dsimp only
 rw [rr o2 m2 (by simp at l1;omega) (BF _),Option.bind_some]
 have hm:zd K (ju ew) = ([x,y],0):=by
  unfold zd
  rw [if_pos (MY kZ)]
  have nn:∀ s:Int,s≠2→aX K s = []:=fun s hs=>by
   refine List.eq_nil_iff_forall_not_mem.2 fun n hn=>?_
   have:=(dE o2 s n).1 hn
   rw [K2] at this
   unfold iR ew at this
   rw [if_neg (fun h=>hs h.1),if_neg (fun h=>hs h.1)] at this
   cases this
  have n2:aX K 2 = [1,2]:=by
   refine EL (qM K 2) (by decide) fun n=>?_
   rw [dE o2,K2]
   unfold iR ew
   by_cases h1:n = 1
   ·subst h1;simp
   ·by_cases h2:n = 2
    ·subst h2;simp
    ·rw [if_neg (fun h=>h1 h.2),if_neg (fun h=>h2 h.2)]
     simp [h1,h2]
  have m0:∀ s:Nat,(s:Int)≠2→lQ K (ju ew) s = []:=fun s hs=>by unfold lQ;rw [nn _ hs];rfl
  have m2:lQ K (ju ew) 2 = [x,y]:=by
   unfold lQ
   have p0:pI (ju ew) 2 = 0:=by rw [J9 kZ (by omega)];rfl
   rw [show ((2:Nat):Int) = 2 from rfl,n2]
   have w:∀ n:Int,0 < n→tB K (ju ew) 2 n = true:=fun n hn=>by unfold tB;rw [p0,bf hn];rfl
   rw [List.filter_cons,if_pos (w 1 (by omega)),List.filter_cons,if_pos (w 2 (by omega)),List.filter_nil,List.map_cons,List.map_cons,List.map_nil,q1,q2]
   rfl
  unfold zo
  rw [show List.range 6 = [0,1,2,3,4,5] from rfl]
  simp only [List.flatMap_cons,List.flatMap_nil]
  rw [m0 0 (by decide),m0 1 (by decide),m2,m0 3 (by decide),m0 4 (by decide),m0 5 (by decide)]
  rfl
 rw [hm]
 dsimp only
 rw [fx,cond_true,aZ.2 (show (([x,y]:List (List Int)).length:Int) = 2 from rfl),cond_true,ac (by simp)]
 show (iL x x).bind _ = _
 rw [mm bx bx,Option.bind_some,decide_eq_true rfl,cond_true,fp o2 m2,Option.bind_some]
 dsimp only
 rw [DF]
 rfl
end Go.Ax
set_option linter.all false
/- Get returns the encodings of the reference; Missing agrees with the reference. -/
set_option maxRecDepth 100000
namespace Go.Ax
theorem G0 {l:List (List Int)} (h:zf l):DB l:=fun b hb=>⟨(h b hb).1,by have:=(mT (h b hb).1 (h b hb).2).2;omega⟩
theorem MC {m:List (List Int)} (h:zf m) (hm:m.length≤24):∃ L ks vs,lT m = some (true,m,⟨L⟩,ks,vs)∧bw (o5 m) ks vs∧cK (o5 m) L∧bz (o5 m)∧ks.length≤24∧L.length≤24:=by
 obtain ⟨L,ks,vs,h1,h2,h3,h4,h5⟩:=Bb (G0 h) (by omega)
 exact ⟨L,ks,vs,h1,h2,h3,Li (G0 h),by omega,by omega⟩
end Go.Ax
