import Derived.Test.YtbjfcadcipfolaaGreatZP58
set_option linter.all false
/- What another feed lacks, by the reference;equal feeds. -/
set_option maxRecDepth 100000
namespace Go.Ax
theorem y8 {a b:List Int} (ha:aA a) (hb:aA b):m8 a b = some (decide (a = b)):=by rw [BR,og ha hb]
theorem mm {a b:List Int} (ha:aA a) (hb:aA b):iL a b = some (decide (a = b)):=by rw [B1,og ha hb]
def iB (K':av) (ks:List Fk) (vs:List (List Int)) (x:Int):Prop:=K' (gD ks x.toNat (zS .GFeed_key)).sender (gD ks x.toNat (zS .GFeed_key)).number = some (gD vs x.toNat [])
theorem GN {K K':av} {ks ks':List Fk} {vs vs':List (List Int)} (hK:bz K) (hK':bz K') (h:bw K ks vs) (h':bw K' ks' vs') (r:Bool)
  (hr1:r = true→∀ x:Int,0≤x→x < (ks.length:Int)→iB K' ks vs x) (hr2:r = false→∃ x:Int,0≤x∧x < (ks.length:Int)∧¬ iB K' ks vs x):∀ (n:Nat) (wl:List Int),
  wl.Nodup→(∀ x∈wl,0≤x∧x < (ks.length:Int)∧iB K' ks vs x)→wl.length+n = ks.length →
  f9 ks' vs' (ks.length:Int) wl ks vs = some (r,ks,vs,ks',vs'):=by
 intro n
 induction n with
 | zero =>
  intro wl hnd hr hlen
  have hw:=Hf hnd (fun x hx=>⟨(hr x hx).1,(hr x hx).2.1⟩) (by omega)
  rw [lH,fx,aF,EK hw]
  show some (true,ks,vs,ks',vs') = _
  cases hrr:r with
  | true=>rfl
  | false =>
   exfalso
   obtain ⟨x,x0,x1,hx⟩:=hr2 hrr
   have:x∈wl:=hw.mem_iff.2 (List.mem_map.2 ⟨x.toNat,List.mem_range.2 (by omega),by omega⟩)
   exact hx (hr x this).2.2
 | succ n ih =>
  intro wl hnd hr hlen
  have hne:=FE (n:=ks.length) (wl:=wl) (by omega)
  rw [lH,fx,aF,LF hne,cond_false]
  refine pU hne fun p hpm=>?_
  obtain ⟨h1,h2⟩:=ln.1 hpm
  have hval:=h.val p h1
  have hgk:gD ks ((p:Nat):Int).toNat (zS .GFeed_key) = ks[p]:=eH h1
  have hgv:gD vs ((p:Nat):Int).toNat [] = gD vs p []:=by rw [Int.toNat_natCast]
  have hbv:=(hK _ _ _ hval).1
  have hm:iB K' ks vs (p:Int)↔K' ks[p].sender ks[p].number = some (gD vs p []):=by unfold iB;rw [hgk,hgv]
  have e1:=h'.has ks[p].sender ks[p].number
  have e2:=h'.get ks[p].sender ks[p].number
  rw [ac rfl,ac (by omega),ac (by omega),hgk,hgv]
  have ek:(⟨ks[p].sender,ks[p].number⟩:Fk) = ks[p]:=rfl
  rw [ek] at e1 e2
  rw [e1,e2]
  have fin:∀ x:Int,x = (p:Int)→¬ iB K' ks vs (p:Int)→r = false:=by
   intro x _ hno
   cases hrr:r with
   | false=>rfl
   | true=>exact absurd (hr1 hrr _ (by omega) (by omega)) hno
  cases hb:K' ks[p].sender ks[p].number with
  | none =>
   have:=fin _ rfl (by rw [hm,hb];intro hh;cases hh)
   rw [this]
   rfl
  | some b =>
   show ((m8 (gD vs p []) b).bind _) = _
   rw [y8 hbv (hK' _ _ _ hb).1,Option.bind_some]
   by_cases he:gD vs p [] = b
   ·rw [decide_eq_true he]
    refine ih _ (List.nodup_cons.2 ⟨h2,hnd⟩) (fun x hx=>?_) (by simp;omega)
    rcases List.mem_cons.1 hx with rfl | hx
    ·exact ⟨by omega,by omega,hm.2 (by rw [hb,he])⟩
    ·exact hr x hx
   ·have:=fin _ rfl (by rw [hm,hb];intro hh;injection hh with hh;exact he hh.symm)
    rw [decide_eq_false he,this]
    rfl
theorem Ij {K:av} {ks ks':List Fk} {vs vs':List (List Int)} (h:bw K ks vs) (h':bw K ks' vs'):ks.length = ks'.length:=by
 have key:∀ {ks ks':List Fk} {vs vs':List (List Int)},bw K ks vs→bw K ks' vs'→ks ⊆ ks':=by
  intro ks ks' vs vs' h h' k hk
  obtain ⟨p,hp,rfl⟩:=List.getElem_of_mem hk
  exact h'.mem _ _ _ (h.val p hp)
 exact Nat.le_antisymm (h.nd.length_le_of_subset (key h h')) (h'.nd.length_le_of_subset (key h' h))
theorem tF {K K':av} {ks ks':List Fk} {vs vs':List (List Int)} (hK:bz K) (hK':bz K') (h:bw K ks vs) (h':bw K' ks' vs'):∃ r:Bool,kV ks vs ks' vs' = some (r,ks,vs,ks',vs')∧(r = true↔K = K'):=by
 rw [uM,qy,wY]
 by_cases hl:ks.length = ks'.length
 ·rw [bW.2 (by omega),cond_false]
  have hall:(∀ x:Int,0≤x→x < (ks.length:Int)→iB K' ks vs x)↔K = K':=by
   constructor
   ·intro hm
    have sub:ks ⊆ ks':=by
     intro k hk
     obtain ⟨p,hp,rfl⟩:=List.getElem_of_mem hk
     have:=hm (p:Int) (by omega) (by omega)
     unfold iB at this
     rw [eH hp] at this
     exact h'.mem _ _ _ this
    have sub':ks' ⊆ ks:=by
     intro k hk
     by_cases hk2:k∈ks
     ·exact hk2
     ·exfalso
      have:=(List.nodup_cons.2 ⟨hk2,h.nd⟩:(k :: ks).Nodup).length_le_of_subset (l₂:=ks') (fun x hx=>by
       rcases List.mem_cons.1 hx with rfl | hx
       ·exact hk
       ·exact sub hx)
      simp at this
      omega
    funext s n
    cases hb:K s n with
    | some b =>
     have hk:=h.mem _ _ _ hb
     obtain ⟨p,hp,e⟩:=List.getElem_of_mem hk
     have:=hm (p:Int) (by omega) (by omega)
     unfold iB at this
     rw [eH hp,e,Int.toNat_natCast] at this
     have hv:=h.val p hp
     rw [e] at hv
     rw [this, ← hv,hb]
    | none =>
     cases hb':K' s n with
     | none=>rfl
     | some b' =>
      have hk:=sub' (h'.mem _ _ _ hb')
      obtain ⟨p,hp,e⟩:=List.getElem_of_mem hk
      have hv:=h.val p hp
      rw [e,hb] at hv
      cases hv
   ·rintro rfl x x0 x1
    unfold iB
    have hp:x.toNat < ks.length:=by omega
    have:gD ks x.toNat (zS .GFeed_key) = ks[x.toNat]:=lX (List.getElem?_eq_getElem hp)
    rw [this]
    exact h.val _ hp
  by_cases hm:∀ x:Int,0≤x→x < (ks.length:Int)→iB K' ks vs x
  ·have:=GN hK hK' h h' true (fun _=>hm) (fun hh=>by cases hh) ks.length [] (by simp) (fun x hx=>by cases hx) (by simp)
   refine ⟨true, ?_,⟨fun _=>hall.1 hm,fun _=>rfl⟩⟩
   rw [this];rfl
  ·have hex:∃ x:Int,0≤x∧x < (ks.length:Int)∧¬ iB K' ks vs x:=by
    refine Classical.byContradiction fun hno=>hm fun x x0 x1=>?_
    exact Classical.byContradiction fun hx=>hno ⟨x,x0,x1,hx⟩
   have:=GN hK hK' h h' false (fun hh=>by cases hh) (fun _=>hex) ks.length [] (by simp) (fun x hx=>by cases hx) (by simp)
   refine ⟨false, ?_,⟨fun hh=>(by cases hh),fun hh=>absurd (hall.2 hh) hm⟩⟩
   rw [this];rfl
 ·rw [bT.2 (by omega),cond_true]
  refine ⟨false,rfl,fun hh=>(by cases hh),fun hh=>?_⟩
  subst hh
  exact absurd (Ij h h') hl
end Go.Ax
set_option linter.all false
/- Made documents: chains, loose ones, shuffled lists. -/
set_option maxRecDepth 100000
namespace Go.Ax
theorem H8 (n:Int):En (fun y=>1≤y∧y≤9000) (rn n):=by
 rw [BC]
 refine kq (by decide) fun r _ _=>?_
 repeat' first
  | refine En.bif (fun _=>?_) (fun _=>?_)
  | (refine kq (by decide) fun q h1 h2=>.some ?_;rw [aD (by omega) (by omega)];omega)
theorem L6 (a b:Int) (u:ByteArray) (hu:u.size≤1000) (r:GPensionhand_Fact) (t2:GFact):∀ (k:Nat) (i:Int) (f:GFact),(u.size:Int) - i≤k→0≤i→i≤(u.size:Int)→En (fun _=>True) (i6 a b u i r t2 f):=by
 intro k
 induction k with
 | zero=>intro i f hk h0 h1;rw [nR];exact En.ifd (fun h=>by omega) fun _=>.some trivial
 | succ k ih =>
  intro i f hk h0 h1
  rw [nR]
  simp only [uW]
  refine En.ifd (fun hi=>?_) fun _=>.some trivial
  rw [aD (n:=i+1) (by omega) (by omega)]
  refine En.gd h0 (En.gd hi ?_)
  repeat' first
   | exact ih _ _ (by omega) (by omega) (by omega)
   | exact En.some trivial
   | refine kq (by decide) fun _ _ _=>?_
   | refine En.bif (fun _=>?_) (fun _=>?_)
theorem LS (r:GPensionhand_Fact):En (fun _=>True) (wg r):=by
 have p127:∀ a b t f,En (fun _=>True) (fh a b r t f):=by
  intro a b t f
  rw [w8,gO,Option.bind_some]
  have:=jG f.Kind
  exact L6 a b _ (by rw [fa];omega) r t _ 0 f (Int.self_le_toNat _) (by omega) (by omega)
 rw [Fl]
 repeat' first
  | exact p127 _ _ _ _
  | refine kq (by decide) fun _ _ _=>?_
  | refine En.bif (fun _=>?_) (fun _=>?_)
  | refine En.bind (H8 _) fun _ _=>?_
theorem lh (n:Int):En (fun _=>True) (eh n):=by
 rw [As]
 repeat' first
  | exact En.some trivial
  | refine kq (by decide) fun _ _ _=>?_
  | refine En.bif (fun _=>?_) (fun _=>?_)
theorem HV (f:GFact):pz f = some (if bH f = true then (dH f,true) else ([],false)):=by
 rw [Ay,qH,Option.bind_some]
 cases hv:bH f with
 | false=>rfl
 | true=>rw [show (!true) = false from rfl,cond_false,qG,hv];rfl
def nB (b:List Int):Prop:=aA b∧b.length≤43
theorem HD:nB []:=⟨mL,by simp⟩
theorem pL {c:Prop} [Decidable c] {b:List Int} (h:nB b):nB (if c then (b,true) else ([],false)).1:=by
 split
 ·exact h
 ·exact HD
theorem Gx (c:GClaim):nB (mn c):=⟨bi.2 ⟨aS _ _,bi.2 ⟨aS _ _,bi.2 ⟨aS _ _,bi.2 ⟨aS _ _,bi.2 ⟨aS _ _,aS _ _⟩⟩⟩⟩⟩,by simp [mn,ay]⟩
theorem ov (c:GRequest):nB (cD c):=⟨bi.2 ⟨aS _ _,bi.2 ⟨aS _ _,aS _ _⟩⟩,by simp [cD,ay]⟩
theorem Ji (c:GRemittance):nB (p7 c):=⟨bi.2 ⟨aS _ _,bi.2 ⟨aS _ _,bi.2 ⟨aS _ _,bi.2 ⟨aS _ _,bi.2 ⟨aS _ _,aS _ _⟩⟩⟩⟩⟩,by simp [p7,ay]⟩
theorem Er (c:GNotice):nB (kJ c):=⟨bi.2 ⟨aS _ _,bi.2 ⟨aS _ _,bi.2 ⟨aS _ _,aS _ _⟩⟩⟩,by simp [kJ,ay]⟩
theorem LR (r:GPensionlaw31_Raw) (k s:Int):En nB (ub r k s):=by
 rw [Du]
 refine kq (by decide) fun _ _ _=>kq (by decide) fun _ _ _=>?_
 refine En.bif (fun _=>?_) fun _=>En.bif (fun _=>?_) fun _=>En.bif (fun _=>?_) fun _=>En.bif (fun _=>?_) fun _=>?_
 ·refine En.bind (LS _) fun f _=>?_
  rw [HV]
  exact .some (pL ⟨CY _,(uo _).2⟩)
 ·refine kq (by decide) fun _ _ _=>kq (by decide) fun _ _ _=>kq (by decide) fun _ _ _=>kq (by decide) fun _ _ _=>?_
  rw [oG]
  exact .some (pL (Gx _))
 ·refine En.bind (lh _) fun _ _=>?_
  rw [mA]
  exact .some (pL (ov _))
 ·refine kq (by decide) fun _ _ _=>kq (by decide) fun _ _ _=>kq (by decide) fun _ _ _=>En.bind (lh _) fun _ _=>En.bind (lh _) fun _ _=>?_
  rw [kD]
  exact .some (pL (Ji _))
 ·refine En.bind (lh _) fun _ _=>En.bind (lh _) fun _ _=>En.bind (lh _) fun _ _=>?_
  rw [nH]
  exact .some (pL (Er _))
def jp (s:Int) (l:List (List Int)):List (List Int):=l.filter fun b=>ak (an b).Sender s
def Dw (c:List (List Int)):Prop:=∀ (i:Nat) (h:i < c.length),(an c[i]).Number = (i:Int)+1∧(an c[i]).Prev = if i = 0 then 0 else dl (gD c (i - 1) [])
def zf (l:List (List Int)):Prop:=∀ b∈l,aA b∧cZ b = true
theorem yU (s:Int) (l:List (List Int)) (b:List Int):jp s (l++[b]) = if (an b).Sender = s then jp s l++[b] else jp s l:=by
 unfold jp
 rw [List.filter_append,List.filter_cons,List.filter_nil]
 by_cases h:(an b).Sender = s
 ·rw [if_pos h,if_pos (aZ.2 h)]
 ·rw [if_neg h,if_neg (by rw [gz.2 h];simp),List.append_nil]
theorem JB {c:List (List Int)} {b:List Int} (h:Dw c) (hn:(an b).Number = (c.length:Int)+1) (hp:(an b).Prev = if c.length = 0 then 0 else dl (gD c (c.length - 1) [])):Dw (c++[b]):=by
 intro i hi
 rw [List.length_append,List.length_singleton] at hi
 have e:gD (c++[b]) (i - 1) [] = gD c (i - 1) []∨i = 0:=by
  rcases Nat.eq_zero_or_pos i with h0 | h0
  ·exact .inr h0
  ·refine .inl ?_
   unfold gD
   rw [List.getD_eq_getElem?_getD,List.getD_eq_getElem?_getD,List.getElem?_append_left (by omega)]
 have e2:(if i = 0 then (0:Int) else dl (gD (c++[b]) (i - 1) [])) = if i = 0 then 0 else dl (gD c (i - 1) []):=by
  rcases e with e | e
  ·rw [e]
  ·rw [if_pos e,if_pos e]
 rw [e2]
 by_cases hc:i < c.length
 ·rw [List.getElem_append_left hc]
  exact h i hc
 ·have:i = c.length:=by omega
  subst this
  rw [List.getElem_append_right (Nat.le_refl _)]
  simp only [Nat.sub_self,List.getElem_cons_zero]
  exact ⟨hn,hp⟩
structure Ew (i:Nat) (out:List (List Int)) (count:List Int) (last:List (List Int)):Prop where
  cl:count.length = 6
  ll:last.length = 6
  ol:out.length≤i
  ok:zf out
  cnt:∀ s:Nat,s < 6→gD count s 0 = ((jp (s:Int) out).length:Int)
  lst:∀ s:Nat,s < 6→(jp (s:Int) out).length≠0→gD last s [] = gD (jp (s:Int) out) ((jp (s:Int) out).length - 1) []
  link:∀ s:Int,Dw (jp s out)
  rng:∀ b∈out,(an b).Sender≤2
theorem L8 (s:Int) (l:List (List Int)):(jp s l).length≤l.length:=List.length_filter_le _ _
theorem A8 {s:Int} {l:List (List Int)} {b:List Int}:b∈jp s l↔b∈l∧(an b).Sender = s:=by
 unfold jp
 rw [List.mem_filter,aZ]
theorem I3 {T:Type} (l:List T) (i j:Nat) (x z:T) (hi:i < l.length):gD (l.set i x) j z = if i = j then x else gD l j z:=by
 unfold gD
 rw [List.getD_eq_getElem?_getD,List.getD_eq_getElem?_getD,List.getElem?_set]
 by_cases h:i = j
 ·subst h;rw [if_pos rfl,if_pos rfl,if_pos hi];rfl
 ·rw [if_neg h,if_neg h]
theorem Ew.add {i:Nat} {out count last} (h:Ew i out count last) {b:List Int} {s:Nat} (hs:s < 3) (hb:aA b) (hd:cZ b = true) (e1:(an b).Sender = (s:Int)) (e2:(an b).Number = gD count s 0+1) (e3:(an b).Prev = if gD count s 0 = 0 then 0 else dl (gD last s [])) :
  Ew (i+1) (out++[b]) (count.set s (gD count s 0+1)) (last.set s b):=by
 have hc:=h.cnt s (by omega)
 have hcl:=h.cl
 have hll:=h.ll
 refine ⟨by rw [List.length_set];exact h.cl,by rw [List.length_set];exact h.ll,by have:=h.ol;simp;omega,fun c hc=>?_,fun t ht=>?_,fun t ht hne=>?_,fun t=>?_,fun c hc=>?_⟩
 ·rcases List.mem_append.1 hc with hc | hc
  ·exact h.ok c hc
  ·rw [List.mem_singleton] at hc;rw [hc];exact ⟨hb,hd⟩
 ·rw [I3 _ _ _ _ _ (by omega),yU,e1]
  by_cases hst:s = t
  ·subst hst
   rw [if_pos rfl,if_pos rfl,hc];simp
  ·rw [if_neg hst,if_neg (by omega)]
   exact h.cnt t ht
 ·rw [I3 _ _ _ _ _ (by omega)]
  rw [yU,e1] at hne ⊢
  by_cases hst:s = t
  ·subst hst
   rw [if_pos rfl,if_pos rfl,List.length_append,List.length_singleton,Nat.add_sub_cancel]
   exact (Be _ _ _).symm
  ·rw [if_neg (by omega)] at hne
   rw [if_neg hst,if_neg (by omega)]
   exact h.lst t ht hne
 ·rw [yU,e1]
  by_cases hst:(s:Int) = t
  ·rw [if_pos hst]
   subst hst
   refine JB (h.link _) (by rw [e2,hc]) ?_
   rw [e3,hc]
   by_cases h0:(jp (s:Int) out).length = 0
   ·rw [if_pos (by omega),if_pos h0]
   ·rw [if_neg (by omega),if_neg h0,h.lst s (by omega) h0]
  ·rw [if_neg hst]
   exact h.link t
 ·rcases List.mem_append.1 hc with hc | hc
  ·exact h.rng c hc
  ·rw [List.mem_singleton] at hc;rw [hc,e1];omega
theorem Ew.skip {i:Nat} {out count last} (h:Ew i out count last):Ew (i+1) out count last:=⟨h.cl,h.ll,by have:=h.ol;omega,h.ok,h.cnt,h.lst,h.link,h.rng⟩
structure sG (d:List (List Int)):Prop where
  len:d.length≤12
  ok:zf d
  link:∀ s:Int,Dw (jp s d)
  rng:∀ b∈d,(an b).Sender≤2
theorem EO {d:GDocument} (hv:cV d = true) (hd:t7 d):aA (eI d)∧cZ (eI d) = true∧an (eI d) = d:=by
 have hb:=AU hv hd.1
 have h:=LZ hv hd
 obtain ⟨h1,h2⟩:=Mn hb (by rw [h])
 exact ⟨hb,h1,by rw [← h2,h]⟩
theorem Gs (l:List GPensionlaw31_Raw):∀ (k i:Nat) (out:List (List Int)) (count:List Int) (last:List (List Int)),i+k = 12→Ew i out count last→i≤l.length →
  En (fun d=>sG d∧d.length≤l.length) (eR l (i:Int) out count last):=by
 intro k
 induction k with
 | zero =>
  intro i out count last hi h hl
  rw [ma,dM,bJ (p:=(i:Int) < 12) (by omega),Bool.and_false,cond_false]
  exact .some ⟨⟨by have:=h.ol;omega,h.ok,h.link,h.rng⟩,by have:=h.ol;omega⟩
 | succ k ih =>
  intro i out count last hi h hl
  rw [ma,dM,bf (p:=(i:Int) < 12) (by omega),Bool.and_true]
  by_cases hlt:i < l.length
  ·have h8:l.length≤9223372036854775807∨True:=.inr trivial
   rw [bf (p:=(i:Int) < (l.length:Int)) (by omega),cond_true,cu,aF,aF]
   refine kq (by decide) fun r0 h0 h3=>?_
   obtain ⟨s,rfl⟩:=Int.eq_ofNat_of_zero_le h0
   have hc:=h.cnt s (by omega)
   have hol:=h.ol
   have hofl:=L8 (s:Int) out
   rw [ac h.cl,ac h0,ac (by omega),aF,aF]
   refine kq (by decide) fun r1 h5 h6=>?_
   rw [ac h.cl,ac h0,ac (by omega),Int.toNat_natCast,aD (n:=gD count s 0+1) (by omega) (by omega),aD (n:=1+r1) (by omega) (by omega)]
   have fin:∀ prev:Int,prev = (if gD count s 0 = 0 then 0 else dl (gD last s []))→0≤prev∧prev < 4294967296→En (fun d=>sG d∧d.length≤l.length) (fC l (i:Int) (s:Int) out count last ⟨(s:Int),gD count s 0+1,1+r1,prev,[]⟩):=by
    intro prev hpe hpr
    rw [rC,cu,aF,ac (by omega)]
    refine En.bind (LR _ _ _) fun b hb=>?_
    have hdo:t7 ⟨(s:Int),gD count s 0+1,1+r1,prev,b⟩:=⟨hb.1,hpr⟩
    rw [pT hdo (by have:=hb.2;show b.length≤_;omega),Option.bind_some,aD (n:=(i:Int)+1) (by omega) (by omega),show (i:Int)+1 = ((i+1:Nat):Int) by omega]
    cases hv:cV ⟨(s:Int),gD count s 0+1,1+r1,prev,b⟩ with
    | false =>
     rw [if_neg (by simp)]
     exact ih (i+1) out count last (by omega) h.skip (by omega)
    | true =>
     obtain ⟨g1,g2,g3⟩:=EO hv hdo
     rw [if_pos rfl]
     show En _ (bif aT 0 0 then _ else _)
     rw [bW.2 rfl,cond_false,ac (by omega),ac (by omega),ac h.cl,ac h0,ac (by omega),ac h.cl,ac h0,ac (by omega),ac h.ll,ac h0,ac (by omega),Int.toNat_natCast,aD (n:=gD count s 0+1) (by omega) (by omega)]
     refine ih (i+1) _ _ _ (by omega) (h.add (by omega) g1 g2 (by rw [g3]) (by rw [g3]) (by rw [g3];exact hpe)) (by omega)
   by_cases hpos:0 < gD count s 0
   ·have h0':(jp (s:Int) out).length≠0:=by omega
    have hl2:=h.lst s (by omega) h0'
    have hmem:gD last s []∈out:=by
     rw [hl2]
     have hlt2:(jp (s:Int) out).length - 1 < (jp (s:Int) out).length:=by omega
     rw [lX (List.getElem?_eq_getElem hlt2)]
     exact (A8.1 (List.getElem_mem hlt2)).1
    have hok:=h.ok _ hmem
    have hlen:=mT hok.1 hok.2
    have hsr:=nC hok.1
    rw [bf hpos,cond_true,ac h.ll,ac h0,ac (by omega),fN hok.1 (by omega) (by omega),Option.bind_some]
    exact fin _ (by rw [if_neg (by omega)]) hsr
   ·rw [bJ hpos,cond_false]
    exact fin 0 (by rw [if_pos (by omega)]) (by omega)
  ·rw [bJ (p:=(i:Int) < (l.length:Int)) (by omega),cond_false]
   exact .some ⟨⟨by have:=h.ol;omega,h.ok,h.link,h.rng⟩,by have:=h.ol;omega⟩
theorem IW (l:List GPensionlaw31_Raw):En (fun d=>sG d∧d.length≤l.length) (jo l):=by
 rw [Aw]
 refine Gs l 12 0 _ _ _ rfl ⟨rfl,rfl,by simp,fun b hb=>(by cases hb),fun s hs=>?_,fun s hs hne=>absurd rfl hne,fun s i hi=>absurd hi (by simp [jp]),fun b hb=>(by cases hb)⟩ (by omega)
 rcases (by omega:s = 0∨s = 1∨s = 2∨s = 3∨s = 4∨s = 5) with rfl | rfl | rfl | rfl | rfl | rfl <;> rfl
end Go.Ax
