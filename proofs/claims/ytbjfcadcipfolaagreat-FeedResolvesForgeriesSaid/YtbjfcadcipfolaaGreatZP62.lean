import Derived.Test.YtbjfcadcipfolaaGreatZP60
set_option linter.all false
/- What an inventory states;the sanity check of the laws of the feed. -/
set_option maxRecDepth 100000
namespace Go.Ax
theorem Px (K:ao):∀ (k n:Nat),n+k = 6→((List.range 6).flatMap fun s:Nat=>mX K (s:Int)).drop (6*n) = ((List.range k).map (n+·)).flatMap fun s:Nat=>mX K (s:Int):=by
 intro k n hk
 have e:List.range 6 = List.range n++(List.range k).map (n+·):=by rw [← hk,List.range_add]
 rw [e,List.flatMap_append,List.drop_left' (tO K n)]
theorem No (K:ao) {s:Nat} (hs:s < 6):∃ r,(aG K).drop (1+6*s) = au (bB K (s:Int)) 2++(au (eu K (s:Int) (bB K (s:Int))) 4++r):=by
 obtain ⟨k,hk⟩:∃ k,s+(k+1) = 6:=⟨5 - s,by omega⟩
 unfold aG
 rw [show 1+6*s = 6*s+1 by omega,List.drop_succ_cons,Px K (k+1) s hk,List.range_succ_eq_map,List.map_cons,List.flatMap_cons]
 exact ⟨_,by rw [Nat.add_zero];unfold mX;rw [List.append_assoc]⟩
theorem Ac {K:ao} (hK:aS K) {s:Nat} (hs:s < 6):pI (aG K) s = (bB K (s:Int):Int):=by
 obtain ⟨r,hr⟩:=No K hs
 have:=l8 hK (s:Int)
 unfold pI ak
 rw [hr,List.take_left' (aA _ _),sQ]
 show (bB K (s:Int):Int) % 65536 = _
 omega
theorem HX {K:ao} {s:Nat} (hs:s < 6):cI (aG K) s = eu K (s:Int) (bB K (s:Int)):=by
 obtain ⟨r,hr⟩:=No K hs
 have hc:=tM (lS K (s:Int) (bB K (s:Int)))
 unfold cI ak
 rw [show 3+6*s = 1+6*s+2 by omega, ← List.drop_drop,hr,List.drop_left' (aA _ _),List.take_left' (aA _ _),sQ]
 show eu K (s:Int) (bB K (s:Int)) % 4294967296 = _
 unfold eu
 omega
theorem NF {K:ao} (hK:aS K):zC (aG K) = true:=by
 rw [FK (JZ K) rfl,wP]
 intro s hs
 rw [Ac hK hs]
 have:=l8 hK (s:Int)
 omega
theorem QS {K K':ao} (hK:aS K) (hK':aS K'):aG K = aG K'↔∀ s:Nat,s < 6→bB K (s:Int) = bB K' (s:Int)∧eu K (s:Int) (bB K (s:Int)) = eu K' (s:Int) (bB K' (s:Int)):=by
 constructor
 ·intro h s hs
  have h1:=Ac hK hs
  have h2:=Ac hK' hs
  have h3:=HX (K:=K) hs
  have h4:=HX (K:=K') hs
  rw [h] at h1 h3
  exact ⟨by omega,by rw [← h3,h4]⟩
 ·intro h
  unfold aG
  congr 1
  have:∀ l:List Nat,(∀ s∈l,s < 6)→(l.flatMap fun s:Nat=>mX K (s:Int)) = l.flatMap fun s:Nat=>mX K' (s:Int):=by
   intro l
   induction l with
   | nil=>intro _;rfl
   | cons x l ih =>
    intro hl
    rw [List.flatMap_cons,List.flatMap_cons,ih fun s hs=>hl s (by simp [hs])]
    congr 1
    have:=h x (hl x (by simp))
    unfold mX
    rw [this.2,this.1]
  exact this _ fun s hs=>List.mem_range.1 hs
theorem Ab {K:ao} {s:Int} {n:Nat} {b:List Int} {prev:Int} (h:K s (n:Int) = some b) (hp:(ah b).Prev = prev) (k:Nat):gO K s (k+1) n prev = ah b :: gO K s k (n+1) (dV b):=by
 show (match K s (n:Int) with | none=>[] | some b=>if (ah b).Prev = prev then ah b :: gO K s k (n+1) (dV b) else []) = _
 rw [h]
 exact if_pos hp
theorem vX (r:GRequest):lr r = some (if gM r = true then (dq r,true) else ([],false)):=by
 rw [wG,tN,Option.bind_some]
 cases h:gM r with
 | false=>rfl
 | true =>
  have n1:∀ v b,b.length≤100→ba v 1 b = some (b++au v 1):=fun v b hb=>od v (n:=1) (by omega) b (by omega)
  have n2:∀ v b,b.length≤100→ba v 2 b = some (b++au v 2):=fun v b hb=>od v (n:=2) (by omega) b (by omega)
  have n5:∀ v b,b.length≤100→ba v 5 b = some (b++au v 5):=fun v b hb=>od v (n:=5) (by omega) b (by omega)
  rw [show (!true) = false from rfl,cond_false,n1 _ _ (by simp),Option.bind_some,n2 _ _ (by simp [aA]),Option.bind_some,n5 _ _ (by simp [aA]),Option.bind_some]
  simp [dq]
theorem Gk {n p:Int} (hn:n = 1∧p = 0∨n = 2∧0≤p∧p < 4294967296):dE ⟨2,n,3,p,dq ⟨5,300,70000⟩⟩ = true∧u6 ⟨2,n,3,p,dq ⟨5,300,70000⟩⟩:=by
 have hb:oF 3 2 (dq ⟨5,300,70000⟩) = true:=by decide
 refine ⟨gm.2 ⟨⟨by show (0:Int)≤2;omega,by show (2:Int)≤5;omega⟩, ?_, ?_,hb⟩,(rm _).1, ?_⟩
 ·show 1≤n∧n≤999;omega
 ·show 1 < n∨p = 0;omega
 ·show 0≤p∧p < 4294967296;omega
theorem ew:ff = some true:=by
 rw [EF,BG,Option.bind_some,vX,if_pos (by decide),Option.bind_some]
 generalize hbody:dq ⟨5,300,70000⟩ = body
 obtain ⟨v1,d1⟩:=Gk (n:=1) (p:=0) (.inl ⟨rfl,rfl⟩)
 rw [hbody] at v1 d1
 have hbl:body.length≤1000:=by rw [← hbody];have:=(rm ⟨5,300,70000⟩).2;omega
 dsimp only
 rw [pw d1 (by show body.length≤_;omega),if_pos v1,Option.bind_some]
 obtain ⟨bx,cx,dx⟩:=DS v1 d1
 generalize fZ ⟨2,1,3,0,body⟩ = x at *
 have lx:=fJ bx cx
 have sx:=nJ bx
 dsimp only
 rw [fU bx (by omega) (by omega),Option.bind_some]
 obtain ⟨v2,d2⟩:=Gk (n:=2) (p:=dV x) (.inr ⟨rfl,sx.1,sx.2⟩)
 rw [hbody] at v2 d2
 rw [pw d2 (by show body.length≤_;omega),if_pos v2,Option.bind_some]
 obtain ⟨by_,cy,dy⟩:=DS v2 d2
 generalize fZ ⟨2,2,3,dV x,body⟩ = y at *
 have ly:=fJ by_ cy
 dsimp only
 rw [bj.2 rfl,cond_false,cond_false]
 obtain ⟨k1,w1,a1,m1,l1⟩:=cc mQ zR by_ (by omega)
 have o1:=lZ mQ by_
 have e1:pW ef y = 0:=p6 cy rfl
 have K1:bK ef y = jo ef 2 2 y:=by unfold bK;rw [if_pos e1,dy]
 rw [a1,Option.bind_some]
 dsimp only
 rw [e1,bj.2 rfl,cond_false,d9 o1 m1,Option.bind_some]
 have h1:kM (bK ef y) 2 = []:=xB (by rw [K1];rfl) _ _
 dsimp only
 rw [h1,show aQ ((([]:List GDocument).length:Nat):Int) 0 = false from rfl,cond_false]
 obtain ⟨k2,w2,a2,m2,l2⟩:=cc o1 m1 bx (by omega)
 have o2:=lZ o1 bx
 have e2:pW (bK ef y) x = 0:=p6 cx (by rw [K1,dx];rfl)
 have K2:bK (bK ef y) x = jo (jo ef 2 2 y) 2 1 x:=by rw [K1] at e2 ⊢; unfold bK;rw [if_pos e2,dx]
 generalize bK (bK ef y) x = K at *
 have q1:K 2 1 = some x:=by rw [K2];rfl
 have q2:K 2 2 = some y:=by rw [K2];rfl
 have q3:K 2 3 = none:=by rw [K2];rfl
 rw [a2,Option.bind_some]
 dsimp only
 rw [e2,bj.2 rfl,cond_false,d9 o2 m2,Option.bind_some]
 have h2:kM K 2 = [ah x,ah y]:=by
  unfold kM
  rw [Ab (n:=1) (k:=999) q1 (by rw [dx]),Ab (n:=2) (k:=998) q2 (by rw [dy]),xB (n:=3) q3]
 dsimp only
 rw [h2,show aQ ((([ah x,ah y]:List GDocument).length:Nat):Int) 2 = false from rfl,cond_false,fI o2 m2,Option.bind_some]
 have hp:bB K 2 = 2:=G3 o2 2 (fun n h1 h2=>by
  rcases (by omega:n = 1∨n = 2) with rfl | rfl
  ·show (K 2 1).isSome = true;rw [q1];rfl
  ·show (K 2 2).isSome = true;rw [q2];rfl) q3
 dsimp only
 rw [hp,show aQ ((2:Nat):Int) 2 = false from rfl,cond_false,Option.bind_some]
 dsimp only
 rw [aH mQ zR,Option.bind_some]
 dsimp only
 rw [bO o2 m2 (by simp at l1;omega) (fM _),Option.bind_some]
 have hm:kC K (aG ef) = ([x,y],0):=by
  unfold kC
  rw [if_pos (NF mQ)]
  have nn:∀ s:Int,s≠2→bi K s = []:=fun s hs=>by
   refine List.eq_nil_iff_forall_not_mem.2 fun n hn=>?_
   have:=(bX o2 s n).1 hn
   rw [K2] at this
   unfold jo ef at this
   rw [if_neg (fun h=>hs h.1),if_neg (fun h=>hs h.1)] at this
   cases this
  have n2:bi K 2 = [1,2]:=by
   refine JR (qJ K 2) (by decide) fun n=>?_
   rw [bX o2,K2]
   unfold jo ef
   by_cases h1:n = 1
   ·subst h1;simp
   ·by_cases h2:n = 2
    ·subst h2;simp
    ·rw [if_neg (fun h=>h1 h.2),if_neg (fun h=>h2 h.2)]
     simp [h1,h2]
  have m0:∀ s:Nat,(s:Int)≠2→kz K (aG ef) s = []:=fun s hs=>by unfold kz;rw [nn _ hs];rfl
  have m2:kz K (aG ef) 2 = [x,y]:=by
   unfold kz
   have p0:pI (aG ef) 2 = 0:=by rw [Ac mQ (by omega)];rfl
   rw [show ((2:Nat):Int) = 2 from rfl,n2]
   have w:∀ n:Int,0 < n→dM K (aG ef) 2 n = true:=fun n hn=>by unfold dM;rw [p0,aV hn];rfl
   rw [List.filter_cons,if_pos (w 1 (by omega)),List.filter_cons,if_pos (w 2 (by omega)),List.filter_nil,List.map_cons,List.map_cons,List.map_nil,q1,q2]
   rfl
  unfold ct
  rw [show List.range 6 = [0,1,2,3,4,5] from rfl]
  simp only [List.flatMap_cons,List.flatMap_nil]
  rw [m0 0 (by decide),m0 1 (by decide),m2,m0 3 (by decide),m0 4 (by decide),m0 5 (by decide)]
  rfl
 rw [hm]
 dsimp only
 rw [dv,cond_true,aZ.2 (show (([x,y]:List (List Int)).length:Int) = 2 from rfl),cond_true,ab (by simp)]
 show (dT x x).bind _ = _
 rw [dN bx bx,Option.bind_some,decide_eq_true rfl,cond_true,aH o2 m2,Option.bind_some]
 dsimp only
 rw [JZ]
 rfl
end Go.Ax
