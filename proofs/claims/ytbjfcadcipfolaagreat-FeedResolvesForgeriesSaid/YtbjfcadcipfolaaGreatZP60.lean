import Derived.Test.YtbjfcadcipfolaaGreatZP58
set_option linter.all false
/- What another feed lacks, by the reference;equal feeds. -/
set_option maxRecDepth 100000
namespace Go.Ax
theorem yJ {K:ao} {L:List Kd} {inv:List Int} (hb:aB inv) (hl:inv.length = 37):∀ (k n:Nat),n+k = 6→(∀ s < n,pI inv s≤999) →
  eH inv (n:Int) ⟨L⟩ = if Gr inv = true then aW inv 0 ⟨L⟩ [] else some ([],11,⟨L⟩)
 | 0,n,hn,hs=>by
  rw [jY,bp (by omega),cond_false,if_pos (wP.2 (by rw [show 6 = n by omega];exact hs))]
 | k+1,n,hn,hs=>by
  have e1:(3+6*(n:Int) - (1+6*(n:Int))).toNat = 2:=by omega
  have e2:(1+6*(n:Int)).toNat = 1+6*n:=by omega
  have hr:=H8 hb n
  rw [jY,aV (by omega),cond_true,ay (n:=6*(n:Int)) (by omega) (by omega),ay (n:=1+6*(n:Int)) (by omega) (by omega),ay (n:=3+6*(n:Int)) (by omega) (by omega),ab (by omega),ab (by omega),ab (by omega),e1,e2,bf (hb.sub _ 2) (Nat.le_trans cm (by omega)),Option.bind_some]
  show (bif aa (999 < pI inv n) then _ else _) = _
  by_cases hp:pI inv n≤999
  ·rw [bp (by omega),cond_false,ay (by omega) (by omega)]
   have:=yJ (K:=K) (L:=L) hb hl k (n+1) (by omega) (fun s h1=>by
    by_cases e:s = n
    ·rw [e];exact hp
    ·exact hs s (by omega))
   rw [show ((n+1:Nat):Int) = (n:Int)+1 by omega] at this
   exact this
  ·rw [aV (by omega),cond_true,if_neg fun hh=>hp (wP.1 hh n (by omega))]
def o4 (K:ao) (inv:List Int) (x:Kd):Bool:=dM K inv x.D.Sender.toNat x.D.Number
theorem IO {K:ao} {L:List Kd} (hK:aS K) (h:di K L) (hL:L.length≤100000) {inv:List Int} (hb:aB inv) (hl:inv.length = 37) {i:Nat} (hi:i < L.length) (o:List (List Int)) (ho:o.length≤100000) :
  aW inv (i:Int) ⟨L⟩ o = aW inv ((i+1:Nat):Int) ⟨L⟩ (o++if o4 K inv L[i] = true then [L[i].B] else []):=by
 obtain ⟨v1,v2⟩:=h.val _ (List.getElem_mem hi)
 have hrng:=hK.rng v1
 obtain ⟨s,hs⟩:∃ s:Nat,L[i].D.Sender = (s:Int):=⟨L[i].D.Sender.toNat,by omega⟩
 have hs6:s < 6:=by omega
 rw [hs] at v1 hrng
 have hp9:=l8 hK (s:Int)
 have hpr:=H8 hb s
 have hcr:=Rn hb s
 have e1:(3+6*(s:Int) - (1+6*(s:Int))).toNat = 2:=by omega
 have e2:(1+6*(s:Int)).toNat = 1+6*s:=by omega
 have e3:(7+6*(s:Int) - (3+6*(s:Int))).toNat = 4:=by omega
 have e4:(3+6*(s:Int)).toNat = 3+6*s:=by omega
 have hw:o4 K inv L[i] = (aa (pI inv s < L[i].D.Number)||vS K inv s):=by unfold o4 dM;rw [hs,Int.toNat_natCast]
 rw [hw,ju]
 dsimp only
 rw [dj hi,cond_true,bH,ap,ap,cz hi,hs,ay (n:=6*(s:Int)) (by omega) (by omega),ay (n:=1+6*(s:Int)) (by omega) (by omega),ay (n:=3+6*(s:Int)) (by omega) (by omega),ay (n:=7+6*(s:Int)) (by omega) (by omega),ab (by omega),ab (by omega),ab (by omega),e1,e2,bf (hb.sub _ 2) (Nat.le_trans cm (by omega)),Option.bind_some,
  ab (by omega),ab (by omega),ab (by omega),e3,e4,bf (hb.sub _ 4) (Nat.le_trans cm (by omega)),Option.bind_some,ap,ap,ap,ap,ab (by omega),ab (by omega),ab (by omega),ab (by omega),co hi (by omega)]
 show (bif aa (pI inv s < L[i].D.Number) then _ else (cH ⟨L⟩ (s:Int)).bind fun r2=>bif aa (pI inv s≤r2) then (ee ⟨L⟩ (s:Int) (pI inv s)).bind fun r3=>bif aQ r3 (IntKind.wrap .u32 (cI inv s)) then _ else _ else _) = _
 cases hn:aa (pI inv s < L[i].D.Number) with
 | true=>rw [cond_true,Bool.true_or,if_pos rfl]
 | false =>
  rw [cond_false,Bool.false_or,fj hK h (by omega),Option.bind_some,fC hcr.1 hcr.2]
  unfold vS
  by_cases hp:pI inv s≤(bB K (s:Int):Int)
  ·have e:pI inv s = ((pI inv s).toNat:Int):=by omega
   have e2:ee ⟨L⟩ (s:Int) (pI inv s) = some (eu K (s:Int) (pI inv s).toNat):=by
    rw [e]
    have:=mz hK h (by omega) (s:Int) (p:=(pI inv s).toNat) (by omega)
    rw [this]
    congr 1
   rw [aV hp,cond_true,e2,Option.bind_some,Bool.true_and]
   cases hne:aQ (eu K (s:Int) (pI inv s).toNat) (cI inv s) with
   | true=>rw [cond_true,if_pos rfl]
   | false=>rw [cond_false,if_neg (by simp),List.append_nil]
  ·rw [bp hp,cond_false,Bool.false_and,if_neg (by simp),List.append_nil]
theorem Ms {K:ao} (hK:aS K) (inv:List Int):((xS K).filter (o4 K inv)).map (fun x=>x.B) = ct K inv:=by
 unfold xS ct
 rw [List.filter_flatMap,List.map_flatMap]
 congr 1
 funext s
 unfold kz
 rw [List.filter_map,List.map_map]
 have:(bi K (s:Int)).filter (o4 K inv ∘ mV K (s:Int)) = (bi K (s:Int)).filter (dM K inv s):=by
  refine List.filter_congr fun n hn=>?_
  have e:=k9 hK ((bX hK _ _).1 hn)
  show o4 K inv (mV K (s:Int) n) = _
  unfold o4
  rw [e.1,e.2,Int.toNat_natCast]
 rw [this]
 rfl
theorem mh {K:ao} {L:List Kd} (hK:aS K) (h:di K L) (hL:L.length≤50000) {inv:List Int} (hb:aB inv):gW inv ⟨L⟩ = some ((kC K inv).1,(kC K inv).2,⟨L⟩):=by
 rw [vw,Bool.or_true,ap]
 unfold kC
 by_cases hl:inv.length = 37
 ·rw [i7 (by rw [aV (by omega),Bool.or_true]),bj.2 (by omega),cond_false]
  by_cases h0:gD inv 0 0 = 73
  ·have:=yJ (K:=K) (L:=L) hb hl 6 0 rfl (fun s hs=>by omega)
   rw [show ((0:Nat):Int) = 0 from rfl] at this
   rw [bj.2 h0,cond_false,this,FK hl h0]
   cases hok:Gr inv with
   | false=>rfl
   | true =>
    rw [if_pos rfl,if_pos rfl]
    have loop:=(xH L (fun i o=>aW inv i ⟨L⟩ o) (fun o x=>o++if o4 K inv x = true then [x.B] else []) (fun i o=>o.length≤i) (fun i o hi ho=>⟨IO hK h (by omega) hb hl hi o (by omega),by split <;> simp <;> omega⟩) [] (by simp)).1
    refine Eq.trans loop ?_
    show aW inv _ ⟨L⟩ _ = _
    rw [ju,cJ,cond_false]
    have e:∀ (m:List Kd) (o:List (List Int)),m.foldl (fun o x=>o++if o4 K inv x = true then [x.B] else []) o = o++(m.filter (o4 K inv)).map fun x=>x.B:=by
     intro m
     induction m with
     | nil=>intro o;simp
     | cons x m ih =>
      intro o
      rw [List.foldl_cons,ih,List.filter_cons]
      split <;> simp
    rw [e,List.nil_append]
    have hLe:=LW hK h
    rw [show (L.filter (o4 K inv)).map (fun x=>x.B) = ct K inv by rw [hLe];exact Ms hK inv]
  ·rw [bS.2 h0,cond_true,if_neg]
   unfold zC
   rw [eJ.2 h0];simp
 ·rw [i7 (by rw [bS.2 (by omega)];rfl),bS.2 (by omega),cond_true,cond_true,if_neg]
  unfold zC
  rw [eJ.2 (by omega)];simp
theorem DI {a b:List Int} (ha:aB a) (hb:aB b):qh a b = some (decide (a = b)):=by rw [EQ,qx ha hb]
theorem dN {a b:List Int} (ha:aB a) (hb:aB b):dT a b = some (decide (a = b)):=by rw [FJ,qx ha hb]
def jX (K':ao) (ks:List Fk) (vs:List (List Int)) (x:Int):Prop:=K' (gD ks x.toNat (zS .GFeed_key)).sender (gD ks x.toNat (zS .GFeed_key)).number = some (gD vs x.toNat [])
theorem LI {K K':ao} {ks ks':List Fk} {vs vs':List (List Int)} (hK:aS K) (hK':aS K') (h:bg K ks vs) (h':bg K' ks' vs') (r:Bool)
  (hr1:r = true→∀ x:Int,0≤x→x < (ks.length:Int)→jX K' ks vs x) (hr2:r = false→∃ x:Int,0≤x∧x < (ks.length:Int)∧¬ jX K' ks vs x):∀ (n:Nat) (wl:List Int),
  wl.Nodup→(∀ x∈wl,0≤x∧x < (ks.length:Int)∧jX K' ks vs x)→wl.length+n = ks.length →
  iI ks' vs' (ks.length:Int) wl ks vs = some (r,ks,vs,ks',vs'):=by
 intro n
 induction n with
 | zero =>
  intro wl hnd hr hlen
  have hw:=Ll hnd (fun x hx=>⟨(hr x hx).1,(hr x hx).2.1⟩) (by omega)
  rw [nz,dv,ap,HV hw]
  show some (true,ks,vs,ks',vs') = _
  cases hrr:r with
  | true=>rfl
  | false =>
   exfalso
   obtain ⟨x,x0,x1,hx⟩:=hr2 hrr
   have:x∈wl:=hw.mem_iff.2 (List.mem_map.2 ⟨x.toNat,List.mem_range.2 (by omega),by omega⟩)
   exact hx (hr x this).2.2
 | succ n ih =>
  intro wl hnd hr hlen
  have hne:=Jy (n:=ks.length) (wl:=wl) (by omega)
  rw [nz,dv,ap,P7 hne,cond_false]
  refine tg hne fun p hpm=>?_
  obtain ⟨h1,h2⟩:=nH.1 hpm
  have hval:=h.val p h1
  have hgk:gD ks ((p:Nat):Int).toNat (zS .GFeed_key) = ks[p]:=cz h1
  have hgv:gD vs ((p:Nat):Int).toNat [] = gD vs p []:=by rw [Int.toNat_natCast]
  have hbv:=(hK _ _ _ hval).1
  have hm:jX K' ks vs (p:Int)↔K' ks[p].sender ks[p].number = some (gD vs p []):=by unfold jX;rw [hgk,hgv]
  have e1:=h'.has ks[p].sender ks[p].number
  have e2:=h'.get ks[p].sender ks[p].number
  rw [ab rfl,ab (by omega),ab (by omega),hgk,hgv]
  have ek:(⟨ks[p].sender,ks[p].number⟩:Fk) = ks[p]:=rfl
  rw [ek] at e1 e2
  rw [e1,e2]
  have fin:∀ x:Int,x = (p:Int)→¬ jX K' ks vs (p:Int)→r = false:=by
   intro x _ hno
   cases hrr:r with
   | false=>rfl
   | true=>exact absurd (hr1 hrr _ (by omega) (by omega)) hno
  cases hb:K' ks[p].sender ks[p].number with
  | none =>
   have:=fin _ rfl (by rw [hm,hb];intro hh;cases hh)
   rw [this]
   rfl
  | some b =>
   show ((qh (gD vs p []) b).bind _) = _
   rw [DI hbv (hK' _ _ _ hb).1,Option.bind_some]
   by_cases he:gD vs p [] = b
   ·rw [decide_eq_true he]
    refine ih _ (List.nodup_cons.2 ⟨h2,hnd⟩) (fun x hx=>?_) (by simp;omega)
    rcases List.mem_cons.1 hx with rfl | hx
    ·exact ⟨by omega,by omega,hm.2 (by rw [hb,he])⟩
    ·exact hr x hx
   ·have:=fin _ rfl (by rw [hm,hb];intro hh;injection hh with hh;exact he hh.symm)
    rw [decide_eq_false he,this]
    rfl
theorem Mu {K:ao} {ks ks':List Fk} {vs vs':List (List Int)} (h:bg K ks vs) (h':bg K ks' vs'):ks.length = ks'.length:=by
 have key:∀ {ks ks':List Fk} {vs vs':List (List Int)},bg K ks vs→bg K ks' vs'→ks ⊆ ks':=by
  intro ks ks' vs vs' h h' k hk
  obtain ⟨p,hp,rfl⟩:=List.getElem_of_mem hk
  exact h'.mem _ _ _ (h.val p hp)
 exact Nat.le_antisymm (h.nd.length_le_of_subset (key h h')) (h'.nd.length_le_of_subset (key h' h))
theorem yq {K K':ao} {ks ks':List Fk} {vs vs':List (List Int)} (hK:aS K) (hK':aS K') (h:bg K ks vs) (h':bg K' ks' vs'):∃ r:Bool,m9 ks vs ks' vs' = some (r,ks,vs,ks',vs')∧(r = true↔K = K'):=by
 rw [yR,uz,A6]
 by_cases hl:ks.length = ks'.length
 ·rw [bj.2 (by omega),cond_false]
  have hall:(∀ x:Int,0≤x→x < (ks.length:Int)→jX K' ks vs x)↔K = K':=by
   constructor
   ·intro hm
    have sub:ks ⊆ ks':=by
     intro k hk
     obtain ⟨p,hp,rfl⟩:=List.getElem_of_mem hk
     have:=hm (p:Int) (by omega) (by omega)
     unfold jX at this
     rw [cz hp] at this
     exact h'.mem _ _ _ this
    have sub':ks' ⊆ ks:=by
     intro k hk
     by_cases hk2:k∈ks
     ·exact hk2
     ·exfalso
      have:=(List.nodup_cons.2 ⟨hk2,h.nd⟩:(k :: ks).Nodup).length_le_of_subset (l₂:=ks') (fun x hx=>by
       rcases List.mem_cons.1 hx with rfl | hx
       ·exact hk
       ·exact sub hx)
      simp at this
      omega
    funext s n
    cases hb:K s n with
    | some b =>
     have hk:=h.mem _ _ _ hb
     obtain ⟨p,hp,e⟩:=List.getElem_of_mem hk
     have:=hm (p:Int) (by omega) (by omega)
     unfold jX at this
     rw [cz hp,e,Int.toNat_natCast] at this
     have hv:=h.val p hp
     rw [e] at hv
     rw [this, ← hv,hb]
    | none =>
     cases hb':K' s n with
     | none=>rfl
     | some b' =>
      have hk:=sub' (h'.mem _ _ _ hb')
      obtain ⟨p,hp,e⟩:=List.getElem_of_mem hk
      have hv:=h.val p hp
      rw [e,hb] at hv
      cases hv
   ·rintro rfl x x0 x1
    unfold jX
    have hp:x.toNat < ks.length:=by omega
    have:gD ks x.toNat (zS .GFeed_key) = ks[x.toNat]:=jE (List.getElem?_eq_getElem hp)
    rw [this]
    exact h.val _ hp
  by_cases hm:∀ x:Int,0≤x→x < (ks.length:Int)→jX K' ks vs x
  ·have:=LI hK hK' h h' true (fun _=>hm) (fun hh=>by cases hh) ks.length [] (by simp) (fun x hx=>by cases hx) (by simp)
   refine ⟨true, ?_,⟨fun _=>hall.1 hm,fun _=>rfl⟩⟩
   rw [this];rfl
  ·have hex:∃ x:Int,0≤x∧x < (ks.length:Int)∧¬ jX K' ks vs x:=by
    refine Classical.byContradiction fun hno=>hm fun x x0 x1=>?_
    exact Classical.byContradiction fun hx=>hno ⟨x,x0,x1,hx⟩
   have:=LI hK hK' h h' false (fun hh=>by cases hh) (fun _=>hex) ks.length [] (by simp) (fun x hx=>by cases hx) (by simp)
   refine ⟨false, ?_,⟨fun hh=>(by cases hh),fun hh=>absurd (hall.2 hh) hm⟩⟩
   rw [this];rfl
 ·rw [bS.2 (by omega),cond_true]
  refine ⟨false,rfl,fun hh=>(by cases hh),fun hh=>?_⟩
  subst hh
  exact absurd (Mu h h') hl
end Go.Ax
set_option linter.all false
/- Made documents: chains, loose ones, shuffled lists. -/
set_option maxRecDepth 100000
namespace Go.Ax
theorem M7 (n:Int):En (fun y=>1≤y∧y≤9000) (vu n):=by
 rw [FW]
 refine iZ (by decide) fun r _ _=>?_
 repeat' first
  | refine En.bif (fun _=>?_) (fun _=>?_)
  | (refine iZ (by decide) fun q h1 h2=>.some ?_;rw [ay (by omega) (by omega)];omega)
theorem QM (a b:Int) (u:ByteArray) (hu:u.size≤1000) (r:GPensionhand_Fact) (t2:GFact):∀ (k:Nat) (i:Int) (f:GFact),(u.size:Int) - i≤k→0≤i→i≤(u.size:Int)→En (fun _=>True) (kG a b u i r t2 f):=by
 intro k
 induction k with
 | zero=>intro i f hk h0 h1;rw [qR];exact En.ifd (fun h=>by omega) fun _=>.some trivial
 | succ k ih =>
  intro i f hk h0 h1
  rw [qR]
  simp only [yT]
  refine En.ifd (fun hi=>?_) fun _=>.some trivial
  rw [ay (n:=i+1) (by omega) (by omega)]
  refine En.gd h0 (En.gd hi ?_)
  repeat' first
   | exact ih _ _ (by omega) (by omega) (by omega)
   | exact En.some trivial
   | refine iZ (by decide) fun _ _ _=>?_
   | refine En.bif (fun _=>?_) (fun _=>?_)
theorem QT (r:GPensionhand_Fact):En (fun _=>True) (ze r):=by
 have p127:∀ a b t f,En (fun _=>True) (gG a b r t f):=by
  intro a b t f
  rw [A8,i6,Option.bind_some]
  have:=lG f.Kind
  exact QM a b _ (by rw [gB];omega) r t _ 0 f (Int.self_le_toNat _) (by omega) (by omega)
 rw [HK]
 repeat' first
  | exact p127 _ _ _ _
  | refine iZ (by decide) fun _ _ _=>?_
  | refine En.bif (fun _=>?_) (fun _=>?_)
  | refine En.bind (M7 _) fun _ _=>?_
theorem nM (n:Int):En (fun _=>True) (fm n):=by
 rw [DE]
 repeat' first
  | exact En.some trivial
  | refine iZ (by decide) fun _ _ _=>?_
  | refine En.bif (fun _=>?_) (fun _=>?_)
theorem MJ (f:GFact):tx f = some (if cq f = true then (eL f,true) else ([],false)):=by
 rw [Dx,vg,Option.bind_some]
 cases hv:cq f with
 | false=>rfl
 | true=>rw [show (!true) = false from rfl,cond_false,uF,hv];rfl
def qP (b:List Int):Prop:=aB b∧b.length≤43
theorem MB:qP []:=⟨pY,by simp⟩
theorem tw {c:Prop} [Decidable c] {b:List Int} (h:qP b):qP (if c then (b,true) else ([],false)).1:=by
 split
 ·exact h
 ·exact MB
theorem KK (c:GClaim):qP (oE c):=⟨bF.2 ⟨be _ _,bF.2 ⟨be _ _,bF.2 ⟨be _ _,bF.2 ⟨be _ _,bF.2 ⟨be _ _,be _ _⟩⟩⟩⟩⟩,by simp [oE,aA]⟩
theorem rm (c:GRequest):qP (dq c):=⟨bF.2 ⟨be _ _,bF.2 ⟨be _ _,be _ _⟩⟩,by simp [dq,aA]⟩
theorem NG (c:GRemittance):qP (tF c):=⟨bF.2 ⟨be _ _,bF.2 ⟨be _ _,bF.2 ⟨be _ _,bF.2 ⟨be _ _,bF.2 ⟨be _ _,be _ _⟩⟩⟩⟩⟩,by simp [tF,aA]⟩
theorem IW (c:GNotice):qP (mG c):=⟨bF.2 ⟨be _ _,bF.2 ⟨be _ _,bF.2 ⟨be _ _,be _ _⟩⟩⟩,by simp [mG,aA]⟩
theorem LE (r:GPensionlaw31_Raw) (k s:Int):En qP (so r k s):=by
 rw [Hr]
 refine iZ (by decide) fun _ _ _=>iZ (by decide) fun _ _ _=>?_
 refine En.bif (fun _=>?_) fun _=>En.bif (fun _=>?_) fun _=>En.bif (fun _=>?_) fun _=>En.bif (fun _=>?_) fun _=>?_
 ·refine En.bind (QT _) fun f _=>?_
  rw [MJ]
  exact .some (tw ⟨Gy _,(xI _).2⟩)
 ·refine iZ (by decide) fun _ _ _=>iZ (by decide) fun _ _ _=>iZ (by decide) fun _ _ _=>iZ (by decide) fun _ _ _=>?_
  rw [rQ]
  exact .some (tw (KK _))
 ·refine En.bind (nM _) fun _ _=>?_
  rw [pq]
  exact .some (tw (rm _))
 ·refine iZ (by decide) fun _ _ _=>iZ (by decide) fun _ _ _=>iZ (by decide) fun _ _ _=>En.bind (nM _) fun _ _=>En.bind (nM _) fun _ _=>?_
  rw [mD]
  exact .some (tw (NG _))
 ·refine En.bind (nM _) fun _ _=>En.bind (nM _) fun _ _=>En.bind (nM _) fun _ _=>?_
  rw [qY]
  exact .some (tw (IW _))
def bu (s:Int) (l:List (List Int)):List (List Int):=l.filter fun b=>am (ah b).Sender s
def AN (c:List (List Int)):Prop:=∀ (i:Nat) (h:i < c.length),(ah c[i]).Number = (i:Int)+1∧(ah c[i]).Prev = if i = 0 then 0 else dV (gD c (i - 1) [])
def gk (l:List (List Int)):Prop:=∀ b∈l,aB b∧cP b = true
theorem Cv (s:Int) (l:List (List Int)) (b:List Int):bu s (l++[b]) = if (ah b).Sender = s then bu s l++[b] else bu s l:=by
 unfold bu
 rw [List.filter_append,List.filter_cons,List.filter_nil]
 by_cases h:(ah b).Sender = s
 ·rw [if_pos h,if_pos (aZ.2 h)]
 ·rw [if_neg h,if_neg (by rw [eJ.2 h];simp),List.append_nil]
theorem NX {c:List (List Int)} {b:List Int} (h:AN c) (hn:(ah b).Number = (c.length:Int)+1) (hp:(ah b).Prev = if c.length = 0 then 0 else dV (gD c (c.length - 1) [])):AN (c++[b]):=by
 intro i hi
 rw [List.length_append,List.length_singleton] at hi
 have e:gD (c++[b]) (i - 1) [] = gD c (i - 1) []∨i = 0:=by
  rcases Nat.eq_zero_or_pos i with h0 | h0
  ·exact .inr h0
  ·refine .inl ?_
   unfold gD
   rw [List.getD_eq_getElem?_getD,List.getD_eq_getElem?_getD,List.getElem?_append_left (by omega)]
 have e2:(if i = 0 then (0:Int) else dV (gD (c++[b]) (i - 1) [])) = if i = 0 then 0 else dV (gD c (i - 1) []):=by
  rcases e with e | e
  ·rw [e]
  ·rw [if_pos e,if_pos e]
 rw [e2]
 by_cases hc:i < c.length
 ·rw [List.getElem_append_left hc]
  exact h i hc
 ·have:i = c.length:=by omega
  subst this
  rw [List.getElem_append_right (Nat.le_refl _)]
  simp only [Nat.sub_self,List.getElem_cons_zero]
  exact ⟨hn,hp⟩
structure IC (i:Nat) (out:List (List Int)) (count:List Int) (last:List (List Int)):Prop where
  cl:count.length = 6
  ll:last.length = 6
  ol:out.length≤i
  ok:gk out
  cnt:∀ s:Nat,s < 6→gD count s 0 = ((bu (s:Int) out).length:Int)
  lst:∀ s:Nat,s < 6→(bu (s:Int) out).length≠0→gD last s [] = gD (bu (s:Int) out) ((bu (s:Int) out).length - 1) []
  link:∀ s:Int,AN (bu s out)
  rng:∀ b∈out,(ah b).Sender≤2
theorem EW (s:Int) (l:List (List Int)):(bu s l).length≤l.length:=List.length_filter_le _ _
theorem pN {s:Int} {l:List (List Int)} {b:List Int}:b∈bu s l↔b∈l∧(ah b).Sender = s:=by
 unfold bu
 rw [List.mem_filter,aZ]
theorem NO {T:Type} (l:List T) (i j:Nat) (x z:T) (hi:i < l.length):gD (l.set i x) j z = if i = j then x else gD l j z:=by
 unfold gD
 rw [List.getD_eq_getElem?_getD,List.getD_eq_getElem?_getD,List.getElem?_set]
 by_cases h:i = j
 ·subst h;rw [if_pos rfl,if_pos rfl,if_pos hi];rfl
 ·rw [if_neg h,if_neg h]
theorem IC.add {i:Nat} {out count last} (h:IC i out count last) {b:List Int} {s:Nat} (hs:s < 3) (hb:aB b) (hd:cP b = true) (e1:(ah b).Sender = (s:Int)) (e2:(ah b).Number = gD count s 0+1) (e3:(ah b).Prev = if gD count s 0 = 0 then 0 else dV (gD last s [])) :
  IC (i+1) (out++[b]) (count.set s (gD count s 0+1)) (last.set s b):=by
 have hc:=h.cnt s (by omega)
 have hcl:=h.cl
 have hll:=h.ll
 refine ⟨by rw [List.length_set];exact h.cl,by rw [List.length_set];exact h.ll,by have:=h.ol;simp;omega,fun c hc=>?_,fun t ht=>?_,fun t ht hne=>?_,fun t=>?_,fun c hc=>?_⟩
 ·rcases List.mem_append.1 hc with hc | hc
  ·exact h.ok c hc
  ·rw [List.mem_singleton] at hc;rw [hc];exact ⟨hb,hd⟩
 ·rw [NO _ _ _ _ _ (by omega),Cv,e1]
  by_cases hst:s = t
  ·subst hst
   rw [if_pos rfl,if_pos rfl,hc];simp
  ·rw [if_neg hst,if_neg (by omega)]
   exact h.cnt t ht
 ·rw [NO _ _ _ _ _ (by omega)]
  rw [Cv,e1] at hne ⊢
  by_cases hst:s = t
  ·subst hst
   rw [if_pos rfl,if_pos rfl,List.length_append,List.length_singleton,Nat.add_sub_cancel]
   exact (FM _ _ _).symm
  ·rw [if_neg (by omega)] at hne
   rw [if_neg hst,if_neg (by omega)]
   exact h.lst t ht hne
 ·rw [Cv,e1]
  by_cases hst:(s:Int) = t
  ·rw [if_pos hst]
   subst hst
   refine NX (h.link _) (by rw [e2,hc]) ?_
   rw [e3,hc]
   by_cases h0:(bu (s:Int) out).length = 0
   ·rw [if_pos (by omega),if_pos h0]
   ·rw [if_neg (by omega),if_neg h0,h.lst s (by omega) h0]
  ·rw [if_neg hst]
   exact h.link t
 ·rcases List.mem_append.1 hc with hc | hc
  ·exact h.rng c hc
  ·rw [List.mem_singleton] at hc;rw [hc,e1];omega
theorem IC.skip {i:Nat} {out count last} (h:IC i out count last):IC (i+1) out count last:=⟨h.cl,h.ll,by have:=h.ol;omega,h.ok,h.cnt,h.lst,h.link,h.rng⟩
structure dG (d:List (List Int)):Prop where
  len:d.length≤12
  ok:gk d
  link:∀ s:Int,AN (bu s d)
  rng:∀ b∈d,(ah b).Sender≤2
theorem DS {d:GDocument} (hv:dE d = true) (hd:u6 d):aB (fZ d)∧cP (fZ d) = true∧ah (fZ d) = d:=by
 have hb:=FS hv hd.1
 have h:=Q5 hv hd
 obtain ⟨h1,h2⟩:=Qr hb (by rw [h])
 exact ⟨hb,h1,by rw [← h2,h]⟩
theorem KM (l:List GPensionlaw31_Raw):∀ (k i:Nat) (out:List (List Int)) (count:List Int) (last:List (List Int)),i+k = 12→IC i out count last→i≤l.length →
  En (fun d=>dG d∧d.length≤l.length) (gf l (i:Int) out count last):=by
 intro k
 induction k with
 | zero =>
  intro i out count last hi h hl
  rw [oo,dS,bp (p:=(i:Int) < 12) (by omega),Bool.and_false,cond_false]
  exact .some ⟨⟨by have:=h.ol;omega,h.ok,h.link,h.rng⟩,by have:=h.ol;omega⟩
 | succ k ih =>
  intro i out count last hi h hl
  rw [oo,dS,aV (p:=(i:Int) < 12) (by omega),Bool.and_true]
  by_cases hlt:i < l.length
  ·have h8:l.length≤9223372036854775807∨True:=.inr trivial
   rw [aV (p:=(i:Int) < (l.length:Int)) (by omega),cond_true,bH,ap,ap]
   refine iZ (by decide) fun r0 h0 h3=>?_
   obtain ⟨s,rfl⟩:=Int.eq_ofNat_of_zero_le h0
   have hc:=h.cnt s (by omega)
   have hol:=h.ol
   have hofl:=EW (s:Int) out
   rw [ab h.cl,ab h0,ab (by omega),ap,ap]
   refine iZ (by decide) fun r1 h5 h6=>?_
   rw [ab h.cl,ab h0,ab (by omega),Int.toNat_natCast,ay (n:=gD count s 0+1) (by omega) (by omega),ay (n:=1+r1) (by omega) (by omega)]
   have fin:∀ prev:Int,prev = (if gD count s 0 = 0 then 0 else dV (gD last s []))→0≤prev∧prev < 4294967296→En (fun d=>dG d∧d.length≤l.length) (gX l (i:Int) (s:Int) out count last ⟨(s:Int),gD count s 0+1,1+r1,prev,[]⟩):=by
    intro prev hpe hpr
    rw [vo,bH,ap,ab (by omega)]
    refine En.bind (LE _ _ _) fun b hb=>?_
    have hdo:u6 ⟨(s:Int),gD count s 0+1,1+r1,prev,b⟩:=⟨hb.1,hpr⟩
    rw [ng hdo (by have:=hb.2;show b.length≤_;omega),Option.bind_some,ay (n:=(i:Int)+1) (by omega) (by omega),show (i:Int)+1 = ((i+1:Nat):Int) by omega]
    cases hv:dE ⟨(s:Int),gD count s 0+1,1+r1,prev,b⟩ with
    | false =>
     rw [if_neg (by simp)]
     exact ih (i+1) out count last (by omega) h.skip (by omega)
    | true =>
     obtain ⟨g1,g2,g3⟩:=DS hv hdo
     rw [if_pos rfl]
     show En _ (bif aQ 0 0 then _ else _)
     rw [bj.2 rfl,cond_false,ab (by omega),ab (by omega),ab h.cl,ab h0,ab (by omega),ab h.cl,ab h0,ab (by omega),ab h.ll,ab h0,ab (by omega),Int.toNat_natCast,ay (n:=gD count s 0+1) (by omega) (by omega)]
     refine ih (i+1) _ _ _ (by omega) (h.add (by omega) g1 g2 (by rw [g3]) (by rw [g3]) (by rw [g3];exact hpe)) (by omega)
   by_cases hpos:0 < gD count s 0
   ·have h0':(bu (s:Int) out).length≠0:=by omega
    have hl2:=h.lst s (by omega) h0'
    have hmem:gD last s []∈out:=by
     rw [hl2]
     have hlt2:(bu (s:Int) out).length - 1 < (bu (s:Int) out).length:=by omega
     rw [jE (List.getElem?_eq_getElem hlt2)]
     exact (pN.1 (List.getElem_mem hlt2)).1
    have hok:=h.ok _ hmem
    have hlen:=fJ hok.1 hok.2
    have hsr:=nJ hok.1
    rw [aV hpos,cond_true,ab h.ll,ab h0,ab (by omega),fU hok.1 (by omega) (by omega),Option.bind_some]
    exact fin _ (by rw [if_neg (by omega)]) hsr
   ·rw [bp hpos,cond_false]
    exact fin 0 (by rw [if_pos (by omega)]) (by omega)
  ·rw [bp (p:=(i:Int) < (l.length:Int)) (by omega),cond_false]
   exact .some ⟨⟨by have:=h.ol;omega,h.ok,h.link,h.rng⟩,by have:=h.ol;omega⟩
theorem uZ (l:List GPensionlaw31_Raw):En (fun d=>dG d∧d.length≤l.length) (dU l):=by
 rw [Dp]
 refine KM l 12 0 _ _ _ rfl ⟨rfl,rfl,by simp,fun b hb=>(by cases hb),fun s hs=>?_,fun s hs hne=>absurd rfl hne,fun s i hi=>absurd hi (by simp [bu]),fun b hb=>(by cases hb)⟩ (by omega)
 rcases (by omega:s = 0∨s = 1∨s = 2∨s = 3∨s = 4∨s = 5) with rfl | rfl | rfl | rfl | rfl | rfl <;> rfl
def Dd (d:List (List Int)):Prop:=d.length≤12∧gk d
theorem Mt (l:List GPensionlaw31_Raw):∀ (k i:Nat) (out:List (List Int)),i+k = 12→out.length≤i→gk out→En Dd (io l (i:Int) out):=by
 intro k
 induction k with
 | zero =>
  intro i out hi ho hok
  rw [q8,dS,bp (p:=(i:Int) < 12) (by omega),Bool.and_false,cond_false]
  exact .some ⟨by omega,hok⟩
 | succ k ih =>
  intro i out hi ho hok
  rw [q8,dS,aV (p:=(i:Int) < 12) (by omega),Bool.and_true]
  by_cases hlt:i < l.length
  ·rw [aV (p:=(i:Int) < (l.length:Int)) (by omega),cond_true,bH,ap,ap]
   refine iZ (by decide) fun r0 h0 h3=>?_
   rw [ap,ap]
   refine iZ (by decide) fun r1 h5 h6=>?_
   rw [ap,ap]
   refine iZ (by decide) fun r2 h7 h8=>?_
   rw [ay (n:=1+r1) (by omega) (by omega),ay (n:=1+r2) (by omega) (by omega)]
   have fin:∀ prev:Int,0≤prev∧prev < 4294967296→En Dd (iT l (i:Int) r0 out ⟨r0,1+r1,1+r2,prev,[]⟩):=by
    intro prev hpr
    rw [w7,bH,ap,ab (by omega)]
    refine En.bind (LE _ _ _) fun b hb=>?_
    have hdo:u6 ⟨r0,1+r1,1+r2,prev,b⟩:=⟨hb.1,hpr⟩
    rw [ng hdo (by have:=hb.2;show b.length≤_;omega),Option.bind_some,ay (n:=(i:Int)+1) (by omega) (by omega),show (i:Int)+1 = ((i+1:Nat):Int) by omega]
    cases hv:dE ⟨r0,1+r1,1+r2,prev,b⟩ with
    | false =>
     rw [if_neg (by simp)]
     exact ih (i+1) out (by omega) (by omega) hok
    | true =>
     obtain ⟨g1,g2,g3⟩:=DS hv hdo
     rw [if_pos rfl]
     show En _ (bif am 0 0 then _ else _)
     rw [dv,cond_true,ab (by omega),ab (by omega)]
     refine ih (i+1) _ (by omega) (by simp;omega) fun c hc=>?_
     rcases List.mem_append.1 hc with hc | hc
     ·exact hok c hc
     ·rw [List.mem_singleton] at hc;rw [hc];exact ⟨g1,g2⟩
   refine En.bif (fun hc=>?_) fun _=>fin 0 (by omega)
   rw [dS,Bool.and_eq_true] at hc
   have hpos:=lO hc.2
   rw [ap,ap]
   refine iZ ⟨hpos,by omega⟩ fun r3 h9 h10=>?_
   obtain ⟨j,rfl⟩:=Int.eq_ofNat_of_zero_le h9
   have hj:j < out.length:=by omega
   have hm:gD out ((j:Nat):Int).toNat [] = out[j]:=cz hj
   have hbo:=hok _ (List.getElem_mem hj)
   have hlen:=fJ hbo.1 hbo.2
   rw [ab h9,ab h10,hm,fU hbo.1 (by omega) (by omega),Option.bind_some]
   exact fin _ (nJ hbo.1)
  ·rw [bp (p:=(i:Int) < (l.length:Int)) (by omega),cond_false]
   exact .some ⟨by omega,hok⟩
theorem Pm (l:List GPensionlaw31_Raw):En Dd (iP l):=by
 rw [Fo]
 have e:(bif aa (6 < (l.length:Int)) then (6:Int) else (l.length:Int)) = ((min 6 l.length:Nat):Int):=by
  by_cases h:6 < l.length
  ·rw [aV (by omega),cond_true];omega
  ·rw [bp (by omega),cond_false];omega
 rw [e,ab (by omega),ab (by omega),vh]
 refine En.bind (uZ _) fun d hd=>?_
 exact Mt l 6 6 d rfl (by have:=hd.2;rw [List.length_take] at this;omega) hd.1.ok
def oq (l m:List (List Int)):Prop:=m.length≤24∧∀ x,x∈m↔x∈l
theorem IL (xby:List Int) (l t:List (List Int)):∀ (k i:Nat) (rest out:List (List Int)),rest.length = k→i+k≤12→out.length≤2*i→(∀ x,(x∈out∨x∈rest)↔x∈l) →
  En (oq l) (iG xby (i:Int) rest out)∧En (fun r:List (List Int) × List (List Int)=>r.1 = t∧oq l r.2) (fO xby (i:Int) rest out t):=by
 intro k
 induction k with
 | zero =>
  intro i rest out hk hi ho hm
  have hr:rest = []:=List.length_eq_zero_iff.1 hk
  subst hr
  have fin:oq l out:=⟨by omega,fun x=>by rw [← hm x];simp⟩
  rw [nF,kQ]
  exact ⟨.some fin, .some ⟨rfl,fin⟩⟩
 | succ k ih =>
  intro i rest out hk hi ho hm
  have tail:∀ (j:Nat) (o:List (List Int)) (hj:j < rest.length),o.length≤2*(i+1)→(∀ x,x∈o↔x∈out∨x = rest[j]) →
    En (oq l) (gr xby (i:Int) (j:Int) rest o)∧En (fun r:List (List Int) × List (List Int)=>r.1 = t∧oq l r.2) (eF xby (i:Int) (j:Int) rest o t):=by
   intro j o hj hol hom
   have h1:(ak rest 0 ((j:Int) - 0).toNat) = rest.take j:=vh rest
   have h2:(ak rest ((j+1:Nat):Int).toNat ((rest.length:Int) - ((j+1:Nat):Int)).toNat) = rest.drop (j+1):=by rw [jF rest (by omega) (by omega),Int.toNat_natCast]
   have hl1:(rest.take j).length = j:=by rw [List.length_take];omega
   have hl2:(rest.drop (j+1)).length = rest.length - (j+1):=List.length_drop
   have hw:ac ((j:Int)+1) = ((j+1:Nat):Int):=by rw [ay (by omega) (by omega)];omega
   have hw2:ac ((i:Int)+1) = ((i+1:Nat):Int):=by rw [ay (by omega) (by omega)];omega
   obtain ⟨i1,i2⟩:=ih (i+1) (rest.take j++rest.drop (j+1)) o (by rw [List.length_append];omega) (by omega) hol (fun x=>by
    have e:x∈rest↔x∈rest.take j∨x = rest[j]∨x∈rest.drop (j+1):=by
     have e0:rest = rest.take j++rest[j] :: rest.drop (j+1):=by rw [← List.drop_eq_getElem_cons hj,List.take_append_drop]
     constructor
     ·intro h
      rw [e0] at h
      rcases List.mem_append.1 h with h | h
      ·exact .inl h
      ·exact .inr (List.mem_cons.1 h)
     ·intro h
      rw [e0]
      rcases h with h | h
      ·exact List.mem_append_left _ h
      ·exact List.mem_append_right _ (List.mem_cons.2 h)
    have:=hm x
    rw [hom x,List.mem_append, ← this,e]
    constructor
    ·rintro ((h | h) | h | h)
     ·exact .inl h
     ·exact .inr (.inr (.inl h))
     ·exact .inr (.inl h)
     ·exact .inr (.inr (.inr h))
    ·rintro (h | h | h | h)
     ·exact .inl (.inl h)
     ·exact .inr (.inl h)
     ·exact .inl (.inr h)
     ·exact .inr (.inr h))
   refine ⟨?_, ?_⟩
   ·rw [uj,hw,hw2,h1,h2,hl1,hl2,ab (by omega),ab (by omega),ab (by omega),ab (by omega),ab (by omega),ab (by omega),ab (by omega),ab (by omega),ab (by omega)]
    exact i1
   ·rw [rD,hw,hw2,h1,h2,hl1,hl2,ab (by omega),ab (by omega),ab (by omega),ab (by omega),ab (by omega),ab (by omega),ab (by omega),ab (by omega),ab (by omega)]
    exact i2
  have step:∀ n:Int,En (oq l) (gY xby (i:Int) n rest out)∧En (fun r:List (List Int) × List (List Int)=>r.1 = t∧oq l r.2) (e8 xby (i:Int) n rest out t):=by
   intro n
   have hm1:=Int.emod_nonneg n (b:=(rest.length:Int)) (by omega)
   have hm2:=Int.emod_lt_of_pos n (b:=(rest.length:Int)) (by omega)
   obtain ⟨j,hj⟩:=Int.eq_ofNat_of_zero_le hm1
   have hjl:j < rest.length:=by omega
   have hg:gD rest ((j:Nat):Int).toNat [] = rest[j]:=cz hjl
   have hol:(out++[rest[j]]).length = out.length+1:=by simp
   have q1:=Int.emod_nonneg (ac (Int.tdiv n 11)) (b:=((out.length+1:Nat):Int)) (by omega)
   have q2:=Int.emod_lt_of_pos (ac (Int.tdiv n 11)) (b:=((out.length+1:Nat):Int)) (by omega)
   obtain ⟨q,hq⟩:=Int.eq_ofNat_of_zero_le q1
   have hql:q < (out++[rest[j]]).length:=by omega
   have hgq:gD (out++[rest[j]]) ((q:Nat):Int).toNat [] = (out++[rest[j]])[q]:=cz hql
   have t1:=tail j (out++[rest[j]]) hjl (by omega) (fun x=>by simp)
   have t2:=tail j ((out++[rest[j]])++[(out++[rest[j]])[q]]) hjl (by simp;omega) (fun x=>by
    have hin:=List.getElem_mem hql
    constructor
    ·intro h
     rcases List.mem_append.1 h with h | h
     ·simpa using h
     ·rw [List.mem_singleton] at h
      rw [h]
      rcases List.mem_append.1 hin with h | h
      ·exact .inl h
      ·exact .inr (List.mem_singleton.1 h)
    ·intro h
     exact List.mem_append_left _ (by simpa using h))
   have hl3:((out++[rest[j]])++[(out++[rest[j]])[q]]).length = out.length+2:=by simp
   refine ⟨?_, ?_⟩
   ·rw [vO,bT _ _ (by omega) (by omega),Option.bind_some,hj,hg,hol,ab (by omega),ab (by omega),ab (by omega),ab (by omega),bT _ _ (by omega) (by omega),Option.bind_some]
    refine En.bif (fun _=>?_) fun _=>t1.1
    rw [bT _ _ (by omega) (by omega),Option.bind_some,hq,hgq,ab (by omega),ab (by omega),ab (by omega),ab (by omega)]
    exact t2.1
   ·rw [sw,bT _ _ (by omega) (by omega),Option.bind_some,hj,hg,hol,ab (by omega),ab (by omega),ab (by omega),ab (by omega),bT _ _ (by omega) (by omega),Option.bind_some]
    refine En.bif (fun _=>?_) fun _=>t1.2
    rw [bT _ _ (by omega) (by omega),Option.bind_some,hq,hgq,ab (by omega),ab (by omega),ab (by omega),ab (by omega)]
    exact t2.2
  rw [nF,kQ,aV (by omega),cond_true,cond_true]
  by_cases hx:(i:Int) < (xby.length:Int)
  ·rw [aV hx,cond_true,cond_true,bH,ap,ap,ap,ap]
   exact step _
  ·rw [bp hx,cond_false,cond_false]
   exact step _
theorem xL (xby:List Int) {l:List (List Int)} (hl:l.length≤12):En (oq l) (fX l xby)∧En (fun r:List (List Int) × List (List Int)=>r.1 = l∧oq l r.2) (jQ xby l):=by
 rw [CY,yS,ab (by omega),ab (by omega),ab (by omega),ab (by omega)]
 exact IL xby l l l.length 0 l [] rfl (by omega) (by simp) (fun x=>by simp)
end Go.Ax
