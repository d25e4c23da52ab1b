import Derived.Test.YtbjfcadcipfolaaGreatYP58
set_option linter.all false
/- What another feed lacks, by the reference;equal feeds. -/
set_option maxRecDepth 100000
namespace Go.Ax
theorem CL {a b:List Int} (ha:aG a) (hb:aG b):pP a b = some (decide (a = b)):=by rw [D2,qv ha hb]
theorem ud {a b:List Int} (ha:aG a) (hb:aG b):mh a b = some (decide (a = b)):=by rw [D6,qv ha hb]
def jU (K':ay) (ks:List Fk) (vs:List (List Int)) (x:Int):Prop:=K' (gD ks x.toNat (zS .GFeed_key)).sender (gD ks x.toNat (zS .GFeed_key)).number = some (gD vs x.toNat [])
theorem Lp {K K':ay} {ks ks':List Fk} {vs vs':List (List Int)} (hK:bL K) (hK':bL K') (h:bI K ks vs) (h':bI K' ks' vs') (r:Bool)
  (hr1:r = true→∀ x:Int,0≤x→x < (ks.length:Int)→jU K' ks vs x) (hr2:r = false→∃ x:Int,0≤x∧x < (ks.length:Int)∧¬ jU K' ks vs x):∀ (n:Nat) (wl:List Int),
  wl.Nodup→(∀ x∈wl,0≤x∧x < (ks.length:Int)∧jU K' ks vs x)→wl.length+n = ks.length →
  ir ks' vs' (ks.length:Int) wl ks vs = some (r,ks,vs,ks',vs'):=by
 intro n
 induction n with
 | zero =>
  intro wl hnd hr hlen
  have hw:=KJ hnd (fun x hx=>⟨(hr x hx).1,(hr x hx).2.1⟩) (by omega)
  rw [nE,gn,an,I7 hw]
  show some (true,ks,vs,ks',vs') = _
  cases hrr:r with
  | true=>rfl
  | false =>
   exfalso
   obtain ⟨x,x0,x1,hx⟩:=hr2 hrr
   have:x∈wl:=hw.mem_iff.2 (List.mem_map.2 ⟨x.toNat,List.mem_range.2 (by omega),by omega⟩)
   exact hx (hr x this).2.2
 | succ n ih =>
  intro wl hnd hr hlen
  have hne:=I1 (n:=ks.length) (wl:=wl) (by omega)
  rw [nE,gn,an,PA hne,cond_false]
  refine td hne fun p hpm=>?_
  obtain ⟨h1,h2⟩:=nk.1 hpm
  have hval:=h.val p h1
  have hgk:gD ks ((p:Nat):Int).toNat (zS .GFeed_key) = ks[p]:=cd h1
  have hgv:gD vs ((p:Nat):Int).toNat [] = gD vs p []:=by rw [Int.toNat_natCast]
  have hbv:=(hK _ _ _ hval).1
  have hm:jU K' ks vs (p:Int)↔K' ks[p].sender ks[p].number = some (gD vs p []):=by unfold jU;rw [hgk,hgv]
  have e1:=h'.has ks[p].sender ks[p].number
  have e2:=h'.get ks[p].sender ks[p].number
  rw [ab rfl,ab (by omega),ab (by omega),hgk,hgv]
  have ek:(⟨ks[p].sender,ks[p].number⟩:Fk) = ks[p]:=rfl
  rw [ek] at e1 e2
  rw [e1,e2]
  have fin:∀ x:Int,x = (p:Int)→¬ jU K' ks vs (p:Int)→r = false:=by
   intro x _ hno
   cases hrr:r with
   | false=>rfl
   | true=>exact absurd (hr1 hrr _ (by omega) (by omega)) hno
  cases hb:K' ks[p].sender ks[p].number with
  | none =>
   have:=fin _ rfl (by rw [hm,hb];intro hh;cases hh)
   rw [this]
   rfl
  | some b =>
   show ((pP (gD vs p []) b).bind _) = _
   rw [CL hbv (hK' _ _ _ hb).1,Option.bind_some]
   by_cases he:gD vs p [] = b
   ·rw [decide_eq_true he]
    refine ih _ (List.nodup_cons.2 ⟨h2,hnd⟩) (fun x hx=>?_) (by simp;omega)
    rcases List.mem_cons.1 hx with rfl | hx
    ·exact ⟨by omega,by omega,hm.2 (by rw [hb,he])⟩
    ·exact hr x hx
   ·have:=fin _ rfl (by rw [hm,hb];intro hh;injection hh with hh;exact he hh.symm)
    rw [decide_eq_false he,this]
    rfl
theorem MC {K:ay} {ks ks':List Fk} {vs vs':List (List Int)} (h:bI K ks vs) (h':bI K ks' vs'):ks.length = ks'.length:=by
 have key:∀ {ks ks':List Fk} {vs vs':List (List Int)},bI K ks vs→bI K ks' vs'→ks ⊆ ks':=by
  intro ks ks' vs vs' h h' k hk
  obtain ⟨p,hp,rfl⟩:=List.getElem_of_mem hk
  exact h'.mem _ _ _ (h.val p hp)
 exact Nat.le_antisymm (h.nd.length_le_of_subset (key h h')) (h'.nd.length_le_of_subset (key h' h))
theorem wW {K K':ay} {ks ks':List Fk} {vs vs':List (List Int)} (hK:bL K) (hK':bL K') (h:bI K ks vs) (h':bI K' ks' vs'):∃ r:Bool,mP ks vs ks' vs' = some (r,ks,vs,ks',vs')∧(r = true↔K = K'):=by
 rw [x8,tE,AF]
 by_cases hl:ks.length = ks'.length
 ·rw [bQ.2 (by omega),cond_false]
  have hall:(∀ x:Int,0≤x→x < (ks.length:Int)→jU K' ks vs x)↔K = K':=by
   constructor
   ·intro hm
    have sub:ks ⊆ ks':=by
     intro k hk
     obtain ⟨p,hp,rfl⟩:=List.getElem_of_mem hk
     have:=hm (p:Int) (by omega) (by omega)
     unfold jU at this
     rw [cd hp] at this
     exact h'.mem _ _ _ this
    have sub':ks' ⊆ ks:=by
     intro k hk
     by_cases hk2:k∈ks
     ·exact hk2
     ·exfalso
      have:=(List.nodup_cons.2 ⟨hk2,h.nd⟩:(k :: ks).Nodup).length_le_of_subset (l₂:=ks') (fun x hx=>by
       rcases List.mem_cons.1 hx with rfl | hx
       ·exact hk
       ·exact sub hx)
      simp at this
      omega
    funext s n
    cases hb:K s n with
    | some b =>
     have hk:=h.mem _ _ _ hb
     obtain ⟨p,hp,e⟩:=List.getElem_of_mem hk
     have:=hm (p:Int) (by omega) (by omega)
     unfold jU at this
     rw [cd hp,e,Int.toNat_natCast] at this
     have hv:=h.val p hp
     rw [e] at hv
     rw [this, ← hv,hb]
    | none =>
     cases hb':K' s n with
     | none=>rfl
     | some b' =>
      have hk:=sub' (h'.mem _ _ _ hb')
      obtain ⟨p,hp,e⟩:=List.getElem_of_mem hk
      have hv:=h.val p hp
      rw [e,hb] at hv
      cases hv
   ·rintro rfl x x0 x1
    unfold jU
    have hp:x.toNat < ks.length:=by omega
    have:gD ks x.toNat (zS .GFeed_key) = ks[x.toNat]:=lr (List.getElem?_eq_getElem hp)
    rw [this]
    exact h.val _ hp
  by_cases hm:∀ x:Int,0≤x→x < (ks.length:Int)→jU K' ks vs x
  ·have:=Lp hK hK' h h' true (fun _=>hm) (fun hh=>by cases hh) ks.length [] (by simp) (fun x hx=>by cases hx) (by simp)
   refine ⟨true, ?_,⟨fun _=>hall.1 hm,fun _=>rfl⟩⟩
   rw [this];rfl
  ·have hex:∃ x:Int,0≤x∧x < (ks.length:Int)∧¬ jU K' ks vs x:=by
    refine Classical.byContradiction fun hno=>hm fun x x0 x1=>?_
    exact Classical.byContradiction fun hx=>hno ⟨x,x0,x1,hx⟩
   have:=Lp hK hK' h h' false (fun hh=>by cases hh) (fun _=>hex) ks.length [] (by simp) (fun x hx=>by cases hx) (by simp)
   refine ⟨false, ?_,⟨fun hh=>(by cases hh),fun hh=>absurd (hall.2 hh) hm⟩⟩
   rw [this];rfl
 ·rw [bS.2 (by omega),cond_true]
  refine ⟨false,rfl,fun hh=>(by cases hh),fun hh=>?_⟩
  subst hh
  exact absurd (MC h h') hl
end Go.Ax
set_option linter.all false
/- Made documents: chains, loose ones, shuffled lists. -/
set_option maxRecDepth 100000
namespace Go.Ax
theorem Mq (n:Int):En (fun y=>1≤y∧y≤9000) (u5 n):=by
 rw [DZ]
 refine i8 (by decide) fun r _ _=>?_
 repeat' first
  | refine En.bif (fun _=>?_) (fun _=>?_)
  | (refine i8 (by decide) fun q h1 h2=>.some ?_;rw [aA (by omega) (by omega)];omega)
theorem P9 (a b:Int) (u:ByteArray) (hu:u.size≤1000) (r:GPensionhand_Fact) (t2:GFact):∀ (k:Nat) (i:Int) (f:GFact),(u.size:Int) - i≤k→0≤i→i≤(u.size:Int)→En (fun _=>True) (kg a b u i r t2 f):=by
 intro k
 induction k with
 | zero=>intro i f hk h0 h1;rw [qw];exact En.ifd (fun h=>by omega) fun _=>.some trivial
 | succ k ih =>
  intro i f hk h0 h1
  rw [qw]
  simp only [yj]
  refine En.ifd (fun hi=>?_) fun _=>.some trivial
  rw [aA (n:=i+1) (by omega) (by omega)]
  refine En.gd h0 (En.gd hi ?_)
  repeat' first
   | exact ih _ _ (by omega) (by omega) (by omega)
   | exact En.some trivial
   | refine i8 (by decide) fun _ _ _=>?_
   | refine En.bif (fun _=>?_) (fun _=>?_)
theorem P5 (r:GPensionhand_Fact):En (fun _=>True) (zA r):=by
 have p127:∀ a b t f,En (fun _=>True) (fU a b r t f):=by
  intro a b t f
  rw [Au,i6,Option.bind_some]
  have:=iY f.Kind
  exact P9 a b _ (by rw [dZ];omega) r t _ 0 f (Int.self_le_toNat _) (by omega) (by omega)
 rw [I2]
 repeat' first
  | exact p127 _ _ _ _
  | refine i8 (by decide) fun _ _ _=>?_
  | refine En.bif (fun _=>?_) (fun _=>?_)
  | refine En.bind (Mq _) fun _ _=>?_
theorem nG (n:Int):En (fun _=>True) (eR n):=by
 rw [Du]
 repeat' first
  | exact En.some trivial
  | refine i8 (by decide) fun _ _ _=>?_
  | refine En.bif (fun _=>?_) (fun _=>?_)
theorem Mb (f:GFact):sG f = some (if aB f = true then (bt f,true) else ([],false)):=by
 rw [Dn,gP,Option.bind_some]
 cases hv:aB f with
 | false=>rfl
 | true=>rw [show (!true) = false from rfl,cond_false,kw,hv];rfl
def qz (b:List Int):Prop:=aG b∧b.length≤43
theorem LL:qz []:=⟨pl,by simp⟩
theorem sk {c:Prop} [Decidable c] {b:List Int} (h:qz b):qz (if c then (b,true) else ([],false)).1:=by
 split
 ·exact h
 ·exact LL
theorem Kl (c:GClaim):qz (oC c):=⟨bC.2 ⟨aW _ _,bC.2 ⟨aW _ _,bC.2 ⟨aW _ _,bC.2 ⟨aW _ _,bC.2 ⟨aW _ _,aW _ _⟩⟩⟩⟩⟩,by simp [oC,av]⟩
theorem qM (c:GRequest):qz (da c):=⟨bC.2 ⟨aW _ _,bC.2 ⟨aW _ _,aW _ _⟩⟩,by simp [da,av]⟩
theorem Nw (c:GRemittance):qz (sP c):=⟨bC.2 ⟨aW _ _,bC.2 ⟨aW _ _,bC.2 ⟨aW _ _,bC.2 ⟨aW _ _,bC.2 ⟨aW _ _,aW _ _⟩⟩⟩⟩⟩,by simp [sP,av]⟩
theorem Hq (c:GNotice):qz (mw c):=⟨bC.2 ⟨aW _ _,bC.2 ⟨aW _ _,bC.2 ⟨aW _ _,aW _ _⟩⟩⟩,by simp [mw,av]⟩
theorem KZ (r:GPensionlaw31_Raw) (k s:Int):En qz (rB r k s):=by
 rw [Gy]
 refine i8 (by decide) fun _ _ _=>i8 (by decide) fun _ _ _=>?_
 refine En.bif (fun _=>?_) fun _=>En.bif (fun _=>?_) fun _=>En.bif (fun _=>?_) fun _=>En.bif (fun _=>?_) fun _=>?_
 ·refine En.bind (P5 _) fun f _=>?_
  rw [Mb]
  exact .some (sk ⟨nf _,(wH _).2⟩)
 ·refine i8 (by decide) fun _ _ _=>i8 (by decide) fun _ _ _=>i8 (by decide) fun _ _ _=>i8 (by decide) fun _ _ _=>?_
  rw [qQ]
  exact .some (sk (Kl _))
 ·refine En.bind (nG _) fun _ _=>?_
  rw [oR]
  exact .some (sk (qM _))
 ·refine i8 (by decide) fun _ _ _=>i8 (by decide) fun _ _ _=>i8 (by decide) fun _ _ _=>En.bind (nG _) fun _ _=>En.bind (nG _) fun _ _=>?_
  rw [ma]
  exact .some (sk (Nw _))
 ·refine En.bind (nG _) fun _ _=>En.bind (nG _) fun _ _=>En.bind (nG _) fun _ _=>?_
  rw [p8]
  exact .some (sk (Hq _))
def k8 (s:Int) (l:List (List Int)):List (List Int):=l.filter fun b=>ak (ap b).Sender s
def G3 (c:List (List Int)):Prop:=∀ (i:Nat) (h:i < c.length),(ap c[i]).Number = (i:Int)+1∧(ap c[i]).Prev = if i = 0 then 0 else dS (gD c (i - 1) [])
def mC (l:List (List Int)):Prop:=∀ b∈l,aG b∧dl b = true
theorem Cf (s:Int) (l:List (List Int)) (b:List Int):k8 s (l++[b]) = if (ap b).Sender = s then k8 s l++[b] else k8 s l:=by
 unfold k8
 rw [List.filter_append,List.filter_cons,List.filter_nil]
 by_cases h:(ap b).Sender = s
 ·rw [if_pos h,if_pos (aY.2 h)]
 ·rw [if_neg h,if_neg (by rw [eF.2 h];simp),List.append_nil]
theorem Nx {c:List (List Int)} {b:List Int} (h:G3 c) (hn:(ap b).Number = (c.length:Int)+1) (hp:(ap b).Prev = if c.length = 0 then 0 else dS (gD c (c.length - 1) [])):G3 (c++[b]):=by
 intro i hi
 rw [List.length_append,List.length_singleton] at hi
 have e:gD (c++[b]) (i - 1) [] = gD c (i - 1) []∨i = 0:=by
  rcases Nat.eq_zero_or_pos i with h0 | h0
  ·exact .inr h0
  ·refine .inl ?_
   unfold gD
   rw [List.getD_eq_getElem?_getD,List.getD_eq_getElem?_getD,List.getElem?_append_left (by omega)]
 have e2:(if i = 0 then (0:Int) else dS (gD (c++[b]) (i - 1) [])) = if i = 0 then 0 else dS (gD c (i - 1) []):=by
  rcases e with e | e
  ·rw [e]
  ·rw [if_pos e,if_pos e]
 rw [e2]
 by_cases hc:i < c.length
 ·rw [List.getElem_append_left hc]
  exact h i hc
 ·have:i = c.length:=by omega
  subst this
  rw [List.getElem_append_right (Nat.le_refl _)]
  simp only [Nat.sub_self,List.getElem_cons_zero]
  exact ⟨hn,hp⟩
structure Hd (i:Nat) (out:List (List Int)) (count:List Int) (last:List (List Int)):Prop where
  cl:count.length = 6
  ll:last.length = 6
  ol:out.length≤i
  ok:mC out
  cnt:∀ s:Nat,s < 6→gD count s 0 = ((k8 (s:Int) out).length:Int)
  lst:∀ s:Nat,s < 6→(k8 (s:Int) out).length≠0→gD last s [] = gD (k8 (s:Int) out) ((k8 (s:Int) out).length - 1) []
  link:∀ s:Int,G3 (k8 s out)
  rng:∀ b∈out,(ap b).Sender≤2
theorem PY (s:Int) (l:List (List Int)):(k8 s l).length≤l.length:=List.length_filter_le _ _
theorem EP {s:Int} {l:List (List Int)} {b:List Int}:b∈k8 s l↔b∈l∧(ap b).Sender = s:=by
 unfold k8
 rw [List.mem_filter,aY]
theorem NG {T:Type} (l:List T) (i j:Nat) (x z:T) (hi:i < l.length):gD (l.set i x) j z = if i = j then x else gD l j z:=by
 unfold gD
 rw [List.getD_eq_getElem?_getD,List.getD_eq_getElem?_getD,List.getElem?_set]
 by_cases h:i = j
 ·subst h;rw [if_pos rfl,if_pos rfl,if_pos hi];rfl
 ·rw [if_neg h,if_neg h]
theorem Hd.add {i:Nat} {out count last} (h:Hd i out count last) {b:List Int} {s:Nat} (hs:s < 3) (hb:aG b) (hd:dl b = true) (e1:(ap b).Sender = (s:Int)) (e2:(ap b).Number = gD count s 0+1) (e3:(ap b).Prev = if gD count s 0 = 0 then 0 else dS (gD last s [])) :
  Hd (i+1) (out++[b]) (count.set s (gD count s 0+1)) (last.set s b):=by
 have hc:=h.cnt s (by omega)
 have hcl:=h.cl
 have hll:=h.ll
 refine ⟨by rw [List.length_set];exact h.cl,by rw [List.length_set];exact h.ll,by have:=h.ol;simp;omega,fun c hc=>?_,fun t ht=>?_,fun t ht hne=>?_,fun t=>?_,fun c hc=>?_⟩
 ·rcases List.mem_append.1 hc with hc | hc
  ·exact h.ok c hc
  ·rw [List.mem_singleton] at hc;rw [hc];exact ⟨hb,hd⟩
 ·rw [NG _ _ _ _ _ (by omega),Cf,e1]
  by_cases hst:s = t
  ·subst hst
   rw [if_pos rfl,if_pos rfl,hc];simp
  ·rw [if_neg hst,if_neg (by omega)]
   exact h.cnt t ht
 ·rw [NG _ _ _ _ _ (by omega)]
  rw [Cf,e1] at hne ⊢
  by_cases hst:s = t
  ·subst hst
   rw [if_pos rfl,if_pos rfl,List.length_append,List.length_singleton,Nat.add_sub_cancel]
   exact (Qh _ _ _).symm
  ·rw [if_neg (by omega)] at hne
   rw [if_neg hst,if_neg (by omega)]
   exact h.lst t ht hne
 ·rw [Cf,e1]
  by_cases hst:(s:Int) = t
  ·rw [if_pos hst]
   subst hst
   refine Nx (h.link _) (by rw [e2,hc]) ?_
   rw [e3,hc]
   by_cases h0:(k8 (s:Int) out).length = 0
   ·rw [if_pos (by omega),if_pos h0]
   ·rw [if_neg (by omega),if_neg h0,h.lst s (by omega) h0]
  ·rw [if_neg hst]
   exact h.link t
 ·rcases List.mem_append.1 hc with hc | hc
  ·exact h.rng c hc
  ·rw [List.mem_singleton] at hc;rw [hc,e1];omega
theorem Hd.skip {i:Nat} {out count last} (h:Hd i out count last):Hd (i+1) out count last:=⟨h.cl,h.ll,by have:=h.ol;omega,h.ok,h.cnt,h.lst,h.link,h.rng⟩
structure zq (d:List (List Int)):Prop where
  len:d.length≤12
  ok:mC d
  link:∀ s:Int,G3 (k8 s d)
  rng:∀ b∈d,(ap b).Sender≤2
theorem Dp {d:GDocument} (hv:bT d = true) (hd:kA d):aG (fg d)∧dl (fg d) = true∧ap (fg d) = d:=by
 have hb:=Fp hv hd.1
 have h:=PR hv hd
 obtain ⟨h1,h2⟩:=PN hb (by rw [h])
 exact ⟨hb,h1,by rw [← h2,h]⟩
theorem Ke (l:List GPensionlaw31_Raw):∀ (k i:Nat) (out:List (List Int)) (count:List Int) (last:List (List Int)),i+k = 12→Hd i out count last→i≤l.length →
  En (fun d=>zq d∧d.length≤l.length) (fq l (i:Int) out count last):=by
 intro k
 induction k with
 | zero =>
  intro i out count last hi h hl
  rw [oH,cc,aX (p:=(i:Int) < 12) (by omega),Bool.and_false,cond_false]
  exact .some ⟨⟨by have:=h.ol;omega,h.ok,h.link,h.rng⟩,by have:=h.ol;omega⟩
 | succ k ih =>
  intro i out count last hi h hl
  rw [oH,cc,aT (p:=(i:Int) < 12) (by omega),Bool.and_true]
  by_cases hlt:i < l.length
  ·have h8:l.length≤9223372036854775807∨True:=.inr trivial
   rw [aT (p:=(i:Int) < (l.length:Int)) (by omega),cond_true,bu,an,an]
   refine i8 (by decide) fun r0 h0 h3=>?_
   obtain ⟨s,rfl⟩:=Int.eq_ofNat_of_zero_le h0
   have hc:=h.cnt s (by omega)
   have hol:=h.ol
   have hofl:=PY (s:Int) out
   rw [ab h.cl,ab h0,ab (by omega),an,an]
   refine i8 (by decide) fun r1 h5 h6=>?_
   rw [ab h.cl,ab h0,ab (by omega),Int.toNat_natCast,aA (n:=gD count s 0+1) (by omega) (by omega),aA (n:=1+r1) (by omega) (by omega)]
   have fin:∀ prev:Int,prev = (if gD count s 0 = 0 then 0 else dS (gD last s []))→0≤prev∧prev < 4294967296→En (fun d=>zq d∧d.length≤l.length) (gu l (i:Int) (s:Int) out count last ⟨(s:Int),gD count s 0+1,1+r1,prev,[]⟩):=by
    intro prev hpe hpr
    rw [uJ,bu,an,ab (by omega)]
    refine En.bind (KZ _ _ _) fun b hb=>?_
    have hdo:kA ⟨(s:Int),gD count s 0+1,1+r1,prev,b⟩:=⟨hb.1,hpr⟩
    rw [mL hdo (by have:=hb.2;show b.length≤_;omega),Option.bind_some,aA (n:=(i:Int)+1) (by omega) (by omega),show (i:Int)+1 = ((i+1:Nat):Int) by omega]
    cases hv:bT ⟨(s:Int),gD count s 0+1,1+r1,prev,b⟩ with
    | false =>
     rw [if_neg (by simp)]
     exact ih (i+1) out count last (by omega) h.skip (by omega)
    | true =>
     obtain ⟨g1,g2,g3⟩:=Dp hv hdo
     rw [if_pos rfl]
     show En _ (bif aV 0 0 then _ else _)
     rw [bQ.2 rfl,cond_false,ab (by omega),ab (by omega),ab h.cl,ab h0,ab (by omega),ab h.cl,ab h0,ab (by omega),ab h.ll,ab h0,ab (by omega),Int.toNat_natCast,aA (n:=gD count s 0+1) (by omega) (by omega)]
     refine ih (i+1) _ _ _ (by omega) (h.add (by omega) g1 g2 (by rw [g3]) (by rw [g3]) (by rw [g3];exact hpe)) (by omega)
   by_cases hpos:0 < gD count s 0
   ·have h0':(k8 (s:Int) out).length≠0:=by omega
    have hl2:=h.lst s (by omega) h0'
    have hmem:gD last s []∈out:=by
     rw [hl2]
     have hlt2:(k8 (s:Int) out).length - 1 < (k8 (s:Int) out).length:=by omega
     rw [lr (List.getElem?_eq_getElem hlt2)]
     exact (EP.1 (List.getElem_mem hlt2)).1
    have hok:=h.ok _ hmem
    have hlen:=po hok.1 hok.2
    have hsr:=qm hok.1
    rw [aT hpos,cond_true,ab h.ll,ab h0,ab (by omega),iy hok.1 (by omega) (by omega),Option.bind_some]
    exact fin _ (by rw [if_neg (by omega)]) hsr
   ·rw [aX hpos,cond_false]
    exact fin 0 (by rw [if_pos (by omega)]) (by omega)
  ·rw [aX (p:=(i:Int) < (l.length:Int)) (by omega),cond_false]
   exact .some ⟨⟨by have:=h.ol;omega,h.ok,h.link,h.rng⟩,by have:=h.ol;omega⟩
theorem Nu (l:List GPensionlaw31_Raw):En (fun d=>zq d∧d.length≤l.length) (sD l):=by
 rw [CJ]
 refine Ke l 12 0 _ _ _ rfl ⟨rfl,rfl,by simp,fun b hb=>(by cases hb),fun s hs=>?_,fun s hs hne=>absurd rfl hne,fun s i hi=>absurd hi (by simp [k8]),fun b hb=>(by cases hb)⟩ (by omega)
 rcases (by omega:s = 0∨s = 1∨s = 2∨s = 3∨s = 4∨s = 5) with rfl | rfl | rfl | rfl | rfl | rfl <;> rfl
def C1 (d:List (List Int)):Prop:=d.length≤12∧mC d
theorem Mr (l:List GPensionlaw31_Raw):∀ (k i:Nat) (out:List (List Int)),i+k = 12→out.length≤i→mC out→En C1 (ij l (i:Int) out):=by
 intro k
 induction k with
 | zero =>
  intro i out hi ho hok
  rw [qo,cc,aX (p:=(i:Int) < 12) (by omega),Bool.and_false,cond_false]
  exact .some ⟨by omega,hok⟩
 | succ k ih =>
  intro i out hi ho hok
  rw [qo,cc,aT (p:=(i:Int) < 12) (by omega),Bool.and_true]
  by_cases hlt:i < l.length
  ·rw [aT (p:=(i:Int) < (l.length:Int)) (by omega),cond_true,bu,an,an]
   refine i8 (by decide) fun r0 h0 h3=>?_
   rw [an,an]
   refine i8 (by decide) fun r1 h5 h6=>?_
   rw [an,an]
   refine i8 (by decide) fun r2 h7 h8=>?_
   rw [aA (n:=1+r1) (by omega) (by omega),aA (n:=1+r2) (by omega) (by omega)]
   have fin:∀ prev:Int,0≤prev∧prev < 4294967296→En C1 (iO l (i:Int) r0 out ⟨r0,1+r1,1+r2,prev,[]⟩):=by
    intro prev hpr
    rw [wj,bu,an,ab (by omega)]
    refine En.bind (KZ _ _ _) fun b hb=>?_
    have hdo:kA ⟨r0,1+r1,1+r2,prev,b⟩:=⟨hb.1,hpr⟩
    rw [mL hdo (by have:=hb.2;show b.length≤_;omega),Option.bind_some,aA (n:=(i:Int)+1) (by omega) (by omega),show (i:Int)+1 = ((i+1:Nat):Int) by omega]
    cases hv:bT ⟨r0,1+r1,1+r2,prev,b⟩ with
    | false =>
     rw [if_neg (by simp)]
     exact ih (i+1) out (by omega) (by omega) hok
    | true =>
     obtain ⟨g1,g2,g3⟩:=Dp hv hdo
     rw [if_pos rfl]
     show En _ (bif ak 0 0 then _ else _)
     rw [gn,cond_true,ab (by omega),ab (by omega)]
     refine ih (i+1) _ (by omega) (by simp;omega) fun c hc=>?_
     rcases List.mem_append.1 hc with hc | hc
     ·exact hok c hc
     ·rw [List.mem_singleton] at hc;rw [hc];exact ⟨g1,g2⟩
   refine En.bif (fun hc=>?_) fun _=>fin 0 (by omega)
   rw [cc,Bool.and_eq_true] at hc
   have hpos:=vC hc.2
   rw [an,an]
   refine i8 ⟨hpos,by omega⟩ fun r3 h9 h10=>?_
   obtain ⟨j,rfl⟩:=Int.eq_ofNat_of_zero_le h9
   have hj:j < out.length:=by omega
   have hm:gD out ((j:Nat):Int).toNat [] = out[j]:=cd hj
   have hbo:=hok _ (List.getElem_mem hj)
   have hlen:=po hbo.1 hbo.2
   rw [ab h9,ab h10,hm,iy hbo.1 (by omega) (by omega),Option.bind_some]
   exact fin _ (qm hbo.1)
  ·rw [aX (p:=(i:Int) < (l.length:Int)) (by omega),cond_false]
   exact .some ⟨by omega,hok⟩
theorem IO (l:List GPensionlaw31_Raw):En C1 (mu l):=by
 rw [Fn]
 have e:(bif aa (6 < (l.length:Int)) then (6:Int) else (l.length:Int)) = ((min 6 l.length:Nat):Int):=by
  by_cases h:6 < l.length
  ·rw [aT (by omega),cond_true];omega
  ·rw [aX (by omega),cond_false];omega
 rw [e,ab (by omega),ab (by omega),p6]
 refine En.bind (Nu _) fun d hd=>?_
 exact Mr l 6 6 d rfl (by have:=hd.2;rw [List.length_take] at this;omega) hd.1.ok
def oa (l m:List (List Int)):Prop:=m.length≤24∧∀ x,x∈m↔x∈l
theorem Ju (xby:List Int) (l t:List (List Int)):∀ (k i:Nat) (rest out:List (List Int)),rest.length = k→i+k≤12→out.length≤2*i→(∀ x,(x∈out∨x∈rest)↔x∈l) →
  En (oa l) (iq xby (i:Int) rest out)∧En (fun r:List (List Int) × List (List Int)=>r.1 = t∧oa l r.2) (eW xby (i:Int) rest out t):=by
 intro k
 induction k with
 | zero =>
  intro i rest out hk hi ho hm
  have hr:rest = []:=List.length_eq_zero_iff.1 hk
  subst hr
  have fin:oa l out:=⟨by omega,fun x=>by rw [← hm x];simp⟩
  rw [nA,lp]
  exact ⟨.some fin, .some ⟨rfl,fin⟩⟩
 | succ k ih =>
  intro i rest out hk hi ho hm
  have tail:∀ (j:Nat) (o:List (List Int)) (hj:j < rest.length),o.length≤2*(i+1)→(∀ x,x∈o↔x∈out∨x = rest[j]) →
    En (oa l) (fJ xby (i:Int) (j:Int) rest o)∧En (fun r:List (List Int) × List (List Int)=>r.1 = t∧oa l r.2) (d8 xby (i:Int) (j:Int) rest o t):=by
   intro j o hj hol hom
   have h1:(af rest 0 ((j:Int) - 0).toNat) = rest.take j:=p6 rest
   have h2:(af rest ((j+1:Nat):Int).toNat ((rest.length:Int) - ((j+1:Nat):Int)).toNat) = rest.drop (j+1):=by rw [jI rest (by omega) (by omega),Int.toNat_natCast]
   have hl1:(rest.take j).length = j:=by rw [List.length_take];omega
   have hl2:(rest.drop (j+1)).length = rest.length - (j+1):=List.length_drop
   have hw:ac ((j:Int)+1) = ((j+1:Nat):Int):=by rw [aA (by omega) (by omega)];omega
   have hw2:ac ((i:Int)+1) = ((i+1:Nat):Int):=by rw [aA (by omega) (by omega)];omega
   obtain ⟨i1,i2⟩:=ih (i+1) (rest.take j++rest.drop (j+1)) o (by rw [List.length_append];omega) (by omega) hol (fun x=>by
    have e:x∈rest↔x∈rest.take j∨x = rest[j]∨x∈rest.drop (j+1):=by
     have e0:rest = rest.take j++rest[j] :: rest.drop (j+1):=by rw [← List.drop_eq_getElem_cons hj,List.take_append_drop]
     constructor
     ·intro h
      rw [e0] at h
      rcases List.mem_append.1 h with h | h
      ·exact .inl h
      ·exact .inr (List.mem_cons.1 h)
     ·intro h
      rw [e0]
      rcases h with h | h
      ·exact List.mem_append_left _ h
      ·exact List.mem_append_right _ (List.mem_cons.2 h)
    have:=hm x
    rw [hom x,List.mem_append, ← this,e]
    constructor
    ·rintro ((h | h) | h | h)
     ·exact .inl h
     ·exact .inr (.inr (.inl h))
     ·exact .inr (.inl h)
     ·exact .inr (.inr (.inr h))
    ·rintro (h | h | h | h)
     ·exact .inl (.inl h)
     ·exact .inr (.inl h)
     ·exact .inl (.inr h)
     ·exact .inr (.inr h))
   refine ⟨?_, ?_⟩
   ·rw [tC,hw,hw2,h1,h2,hl1,hl2,ab (by omega),ab (by omega),ab (by omega),ab (by omega),ab (by omega),ab (by omega),ab (by omega),ab (by omega),ab (by omega)]
    exact i1
   ·rw [qI,hw,hw2,h1,h2,hl1,hl2,ab (by omega),ab (by omega),ab (by omega),ab (by omega),ab (by omega),ab (by omega),ab (by omega),ab (by omega),ab (by omega)]
    exact i2
  have step:∀ n:Int,En (oa l) (gv xby (i:Int) n rest out)∧En (fun r:List (List Int) × List (List Int)=>r.1 = t∧oa l r.2) (eA xby (i:Int) n rest out t):=by
   intro n
   have hm1:=Int.emod_nonneg n (b:=(rest.length:Int)) (by omega)
   have hm2:=Int.emod_lt_of_pos n (b:=(rest.length:Int)) (by omega)
   obtain ⟨j,hj⟩:=Int.eq_ofNat_of_zero_le hm1
   have hjl:j < rest.length:=by omega
   have hg:gD rest ((j:Nat):Int).toNat [] = rest[j]:=cd hjl
   have hol:(out++[rest[j]]).length = out.length+1:=by simp
   have q1:=Int.emod_nonneg (ac (Int.tdiv n 11)) (b:=((out.length+1:Nat):Int)) (by omega)
   have q2:=Int.emod_lt_of_pos (ac (Int.tdiv n 11)) (b:=((out.length+1:Nat):Int)) (by omega)
   obtain ⟨q,hq⟩:=Int.eq_ofNat_of_zero_le q1
   have hql:q < (out++[rest[j]]).length:=by omega
   have hgq:gD (out++[rest[j]]) ((q:Nat):Int).toNat [] = (out++[rest[j]])[q]:=cd hql
   have t1:=tail j (out++[rest[j]]) hjl (by omega) (fun x=>by simp)
   have t2:=tail j ((out++[rest[j]])++[(out++[rest[j]])[q]]) hjl (by simp;omega) (fun x=>by
    have hin:=List.getElem_mem hql
    constructor
    ·intro h
     rcases List.mem_append.1 h with h | h
     ·simpa using h
     ·rw [List.mem_singleton] at h
      rw [h]
      rcases List.mem_append.1 hin with h | h
      ·exact .inl h
      ·exact .inr (List.mem_singleton.1 h)
    ·intro h
     exact List.mem_append_left _ (by simpa using h))
   have hl3:((out++[rest[j]])++[(out++[rest[j]])[q]]).length = out.length+2:=by simp
   refine ⟨?_, ?_⟩
   ·rw [uF,fj _ _ (by omega) (by omega),Option.bind_some,hj,hg,hol,ab (by omega),ab (by omega),ab (by omega),ab (by omega),fj _ _ (by omega) (by omega),Option.bind_some]
    refine En.bif (fun _=>?_) fun _=>t1.1
    rw [fj _ _ (by omega) (by omega),Option.bind_some,hq,hgq,ab (by omega),ab (by omega),ab (by omega),ab (by omega)]
    exact t2.1
   ·rw [rJ,fj _ _ (by omega) (by omega),Option.bind_some,hj,hg,hol,ab (by omega),ab (by omega),ab (by omega),ab (by omega),fj _ _ (by omega) (by omega),Option.bind_some]
    refine En.bif (fun _=>?_) fun _=>t1.2
    rw [fj _ _ (by omega) (by omega),Option.bind_some,hq,hgq,ab (by omega),ab (by omega),ab (by omega),ab (by omega)]
    exact t2.2
  rw [nA,lp,aT (by omega),cond_true,cond_true]
  by_cases hx:(i:Int) < (xby.length:Int)
  ·rw [aT hx,cond_true,cond_true,bu,an,an,an,an]
   exact step _
  ·rw [aX hx,cond_false,cond_false]
   exact step _
theorem wq (xby:List Int) {l:List (List Int)} (hl:l.length≤12):En (oa l) (gF l xby)∧En (fun r:List (List Int) × List (List Int)=>r.1 = l∧oa l r.2) (sJ xby l):=by
 rw [Bq,yg,ab (by omega),ab (by omega),ab (by omega),ab (by omega)]
 exact Ju xby l l l.length 0 l [] rfl (by omega) (by simp) (fun x=>by simp)
end Go.Ax
