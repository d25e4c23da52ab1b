import Derived.Test.YtbjfcadcipfolaaGreatZB4
set_option linter.all false
/- States in a canonical form;own rows that become data;nil as a row. -/
namespace Go.Ax
open Go.RowKit
def wC:List Nat→Nat→Nat
 | [],_=>0
 | q :: r,o=>bif Nat.beq q o then 0 else wC r o+1
mutual
def V.ren (os:List Nat):V→V
 | .c d=>.c d
 | .agg vs=>.agg (V.rens os vs)
 | .tup vs=>.tup (V.rens os vs)
 | .ptr o k i j=>.ptr (wC os o) k i j
 | .row o k=>.row (wC os o) k
 | .sub o k off n=>.sub (wC os o) k off n
 | .dptr k cs j=>.dptr k cs j
 | .fn f caps=>.fn f (V.rens os caps)
def V.rens (os:List Nat):List V→List V
 | []=>[]
 | v :: r=>V.ren os v :: V.rens os r
end
def Ob.ren (os:List Nat):Ob→Ob
 | .box cs=>.box (V.rens os cs)
 | .row e t l=>.row e t l
 | .raw x=>.raw x
 | .map t kt vt ks vs=>.map t kt vt ks vs
 | .iter m s l=>.iter (V.ren os m) s l
def Hw (l:List Nat) (x:Nat):List Nat:=bif kx x l then l else l++[x]
def zx (l xs:List Nat):List Nat:=xs.foldl Hw l
def MX (H:ab) (o:Nat):List Nat:=match ab.get H o with | some (.box cs)=>V.refss cs | some (.iter m _ _)=>V.refs m | _=>[]
def Ii (H:ab) (os:List Nat):List Nat:=zx os (os.flatMap (MX H))
def Nk (tm:List (Nat × az)):List Nat:=tm.flatMap fun x=>V.refs x.2.v
def tA (tm:List (Nat × az)) (H:ab):List Nat:=Ii H (Ii H (Ii H (zx [] (Nk tm))))
def IG (os:List Nat) (tm:List (Nat × az)):List (Nat × az):=tm.map fun x=>(x.1,⟨[],x.2.v.ren os⟩)
def Bf (H:ab):List Nat→Nat→List Nat→ab
 | _,_,[]=>[]
 | os,i,o :: r=>match ab.get H o with | some b=>(i,some (b.ren os)) :: Bf H os (i+1) r | none=>Bf H os (i+1) r
def canonN (ts:List Nat) (σ:St):St :=
 { tm:=IG (tA (eu ts σ.tm) σ.hp) (eu ts σ.tm),hp:=Bf σ.hp (tA (eu ts σ.tm) σ.hp) 0 (tA (eu ts σ.tm) σ.hp),nx:=(tA (eu ts σ.tm) σ.hp).length }
def fO:List Nat→Bool
 | []=>true
 | o :: r=>!(kx o r)&&fO r
def mW (ts:List Nat) (σ:St):Bool :=
 fO (tA (eu ts σ.tm) σ.hp)&&(eu ts σ.tm).all (fun x=>z6 (tA (eu ts σ.tm) σ.hp) x.2) &&
 (tA (eu ts σ.tm) σ.hp).all (fun o=>match ab.get σ.hp o with | some b=>F5 (tA (eu ts σ.tm) σ.hp) b | none=>true)
section
variable {σ σ' σ'':St} {E:ar} {a:Act} {w:World} {N:Nat} {B:eL} {P:Program} {K K':Exit→St→Prop} {H:ab}
theorem rb:∀ {os:List Nat} {o:Nat},o∈os→os[wC os o]? = some o
 | [],o,h=>by simp at h
 | q :: r,o,h=>by
  unfold wC
  cases hb:Nat.beq q o with
  | true =>
   have:=Nat.eq_of_beq_eq_true hb
   subst this;rfl
  | false =>
   have hne:q≠o:=fun e=>by subst e;simp at hb
   rcases List.mem_cons.1 h with h | h
   ·exact (hne h.symm).elim
   ·simpa using rb h
theorem Az:∀ {os:List Nat},fO os = true→∀ i j o:Nat,os[i]? = some o→os[j]? = some o→i = j
 | [],_,i,j,o,h,_=>by simp at h
 | q :: r,hn,i,j,o,hi,hj=>by
  unfold fO at hn
  simp only [Bool.and_eq_true,Bool.not_eq_true'] at hn
  have hq:∀ o,o∈r→q≠o:=by
   intro o ho e
   subst e
   have:kx q r = true:=List.any_eq_true.2 ⟨q,ho,by simp⟩
   rw [this] at hn
   exact absurd hn.1 (by simp)
  match i,j with
  | 0,0=>rfl
  | 0,j+1 =>
   simp at hi hj
   subst hi
   exact (hq _ (List.mem_of_getElem? hj) rfl).elim
  | i+1,0 =>
   simp at hi hj
   subst hj
   exact (hq _ (List.mem_of_getElem? hi) rfl).elim
  | i+1,j+1 =>
   simp at hi hj
   have:=Az hn.2 i j o hi hj
   omega
def ar.ren (E:ar) (os:List Nat):ar where
  conc q:=match os[q]? with | some o=>E.conc o | none=>none
  cap q:=match os[q]? with | some o=>E.cap o | none=>0
  len q:=match os[q]? with | some o=>E.len o | none=>0
  live q:=∃ o,os[q]? = some o∧E.live o
  ok:=E.ok
theorem kH (os:List Nat):∀ vs:List V,(V.rens os vs).length = vs.length
 | []=>rfl
 | _ :: r=>by simp [V.rens,kH os r]
theorem pX (os:List Nat):∀ (vs:List V) (i:Nat),(V.rens os vs)[i]? = (vs[i]?).map (V.ren os)
 | [],i=>by simp [V.rens]
 | v :: r,0=>by simp [V.rens]
 | v :: r,i+1=>by simp [V.rens,pX os r i]
theorem af.ren {os:List Nat} {v:Value} {d:V} (h:af E w v d):(∀ o∈V.refs d,o∈os)→af (E.ren os) w v (d.ren os):=by
 induction h with
 | c v d h=>exact fun _=>.c v d h
 | agg vs ds hl h ih =>
  intro hr
  rw [V.ren]
  refine .agg vs _ (by rw [kH,hl]) fun i v d hv hd=>?_
  rw [pX] at hd
  cases hx:ds[i]? with
  | none=>rw [hx] at hd;cases hd
  | some x=>rw [hx] at hd;cases hd;exact ih i v x hv hx fun o ho=>hr o (bS hx ho)
 | tup vs ds hl h ih =>
  intro hr
  rw [V.ren]
  refine .tup vs _ (by rw [kH,hl]) fun i v d hv hd=>?_
  rw [pX] at hd
  cases hx:ds[i]? with
  | none=>rw [hx] at hd;cases hd
  | some x=>rw [hx] at hd;cases hd;exact ih i v x hv hx fun o ho=>hr o (bS hx ho)
 | ptr o k i j b h1 h2 h3 =>
  intro hr
  have ho:=rb (hr o (by simp [V.refs]))
  rw [V.ren]
  exact .ptr _ k i j b ⟨o,ho,h1⟩ (by simp only [ar.ren,ho];exact h2) (by simp only [ar.ren,ho];exact h3)
 | row o k a n c hn hl hc hm h0 =>
  intro hr
  have ho:=rb (hr o (by simp [V.refs]))
  rw [V.ren]
  exact .row _ k a n c ⟨o,ho,hn⟩ (by simp [ar.ren,ho,hl]) hc hm (by simpa [ar.ren,ho] using h0)
 | sub o k off n a c hn hc hm hl ha =>
  intro hr
  have ho:=rb (hr o (by simp [V.refs]))
  rw [V.ren]
  exact .sub _ k off n a c ⟨o,ho,hn⟩ hc hm (by simpa [ar.ren,ho] using hl) (by simpa [ar.ren,ho] using ha)
 | dptr k cs j ad u h1 h2 h3 h4=>exact fun _=>.dptr k cs j ad u h1 h2 h3 h4
 | fn f vs ds hl h ih =>
  intro hr
  rw [V.ren]
  refine .fn f vs _ (by rw [kH,hl]) fun i v d hv hd=>?_
  rw [pX] at hd
  cases hx:ds[i]? with
  | none=>rw [hx] at hd;cases hd
  | some x=>rw [hx] at hd;cases hd;exact ih i v x hv hx fun o ho=>hr o (bS hx ho)
theorem gJ.ren {os:List Nat} {q o:Nat} {b:Ob} (ho:os[q]? = some o) (h:gJ E w o b) (hr:F5 os b = true):gJ (E.ren os) w q (b.ren os):=by
 cases b with
 | box cs =>
  obtain ⟨e1,b,C,t,e2,e3,e4,e5⟩:=h
  refine ⟨by simp only [ar.ren,ho];exact e1,b,C,t,by simp only [ar.ren,ho];exact e2,e3, ?_,fun i v d hv hd=>?_⟩
  ·rw [kH];exact e4
  ·rw [pX] at hd
   cases hx:cs[i]? with
   | none=>rw [hx] at hd;cases hd
   | some x =>
    rw [hx] at hd;cases hd
    exact (e5 i v x hv hx).ren fun p hp=>ir (List.all_eq_true.1 hr p (bS hx hp))
 | raw x =>
  obtain ⟨h1,b,h2,h3⟩:=h
  exact ⟨by simp only [ar.ren,ho];exact h1,b,by simp only [ar.ren,ho];exact h2,h3⟩
 | map t kt vt ks vs=>exact nv.mp h (by simp only [ar.ren,ho]) (by simp only [ar.ren,ho]) (fun _ _=>rfl) fun _ _ h=>h
 | iter m s0 l0 =>
  obtain ⟨e1,b,bm,s,seen,c,e2,e3,e4,e5⟩:=h
  exact ⟨by simp only [ar.ren,ho];exact e1,b,bm,s,seen,c,by simp only [ar.ren,ho];exact e2,e3,e4,e5.ren fun p hp=>ir (List.all_eq_true.1 hr p hp)⟩
 | row e t l =>
  obtain ⟨h1,h2⟩:=h
  refine ⟨by simp only [ar.ren,ho];exact h1, ?_⟩
  rcases h2 with ⟨h2,h3⟩ | ⟨b,C,g1,g2,g3,g4,g5,g6,g7,g8⟩
  ·exact .inl ⟨by simp only [ar.ren,ho];exact h2,h3⟩
  ·refine .inr ⟨b,C,by simp only [ar.ren,ho];exact g1,g2,by simp only [ar.ren,ho];exact g3,by simp only [ar.ren,ho];exact g4,by simp only [ar.ren,ho];exact g5,g6,g7,g8⟩
theorem CM (os:List Nat):∀ (tm:List (Nat × az)) (t:Nat),au (IG os tm) t = (au tm t).map fun s=>⟨[],s.v.ren os⟩
 | [],t=>by simp [IG,au]
 | (q,s) :: r,t=>by
  have ih:=CM os r t
  unfold IG at ih ⊢
  rw [List.map_cons,aY,aY]
  split
  ·rfl
  ·exact ih
theorem xO (H:ab) (os:List Nat):∀ (l:List Nat) (i q:Nat) (b:Ob),ab.get (Bf H os i l) q = some b→∃ o b',l[q - i]? = some o∧i≤q∧ab.get H o = some b'∧b = b'.ren os
 | [],i,q,b,h=>by simp [Bf,ab.get] at h
 | o :: r,i,q,b,h=>by
  unfold Bf at h
  split at h
  ·next b' hb' =>
   rw [ab.get_cons] at h
   split at h
   ·next e=>subst e;cases h;exact ⟨o,b',by simp,Nat.le_refl _,hb',rfl⟩
   ·obtain ⟨o',b2,h1,h2,h3,h4⟩:=xO H os r (i+1) q b h
    refine ⟨o',b2, ?_,by omega,h3,h4⟩
    have:q - i = (q - (i+1))+1:=by omega
    rw [this];simpa using h1
  ·obtain ⟨o',b2,h1,h2,h3,h4⟩:=xO H os r (i+1) q b h
   refine ⟨o',b2, ?_,by omega,h3,h4⟩
   have:q - i = (q - (i+1))+1:=by omega
   rw [this];simpa using h1
theorem cO.canonN (ts:List Nat) (h:mW ts σ = true):cO σ (canonN ts σ):=by
 unfold mW at h
 simp only [Bool.and_eq_true] at h
 obtain ⟨⟨h1,h2⟩,h3⟩:=h
 unfold Go.Ax.canonN
 generalize tA (eu ts σ.tm) σ.hp = os at h1 h2 h3 ⊢
 refine ⟨fun N B E a w hs=>⟨E.ren os,hs.size,hs.small,hs.defers,fun q hq hl=>?_,⟨fun q ob ho=>?_,fun q q' b hq hq' hb hb'=>?_,fun q b hq hb=>?_,fun q b hq hb=>?_,hs.heap.oklt⟩,fun t s hg=>?_,hs.base,fun q b hq hb=>?_,hs.okold⟩⟩
 ·obtain ⟨o,ho,_⟩:=hl
  have hlt:=(List.getElem?_eq_some_iff.1 ho).1
  have hq':os.length≤q:=hq
  omega
 ·obtain ⟨o,b',g1,g2,g3,rfl⟩:=xO σ.hp os os 0 q ob ho
  have g1':os[q]? = some o:=by simpa using g1
  obtain ⟨l1,l2⟩:=hs.heap.at_ o b' g3
  have hok:=List.all_eq_true.1 h3 o (List.mem_of_getElem? g1')
  rw [g3] at hok
  exact ⟨⟨o,g1',l1⟩,l2.ren g1' hok⟩
 ·obtain ⟨o,ho,l⟩:=hq
  obtain ⟨o',ho',l'⟩:=hq'
  simp only [ar.ren,ho] at hb
  simp only [ar.ren,ho'] at hb'
  have:=hs.heap.inj o o' b l l' hb hb'
  subst this
  exact Az h1 q q' o ho ho'
 ·obtain ⟨o,ho,l⟩:=hq
  simp only [ar.ren,ho] at hb
  exact hs.heap.sep o b l hb
 ·obtain ⟨o,ho,l⟩:=hq
  simp only [ar.ren,ho] at hb
  exact hs.heap.lt o b l hb
 ·rw [CM] at hg
  cases hk:au (eu ts σ.tm) t with
  | none=>rw [hk] at hg;cases hg
  | some s0 =>
   rw [hk] at hg
   cases hg
   obtain ⟨g1,g2⟩:=qE ts σ.tm t s0 hk
   have hok:=List.all_eq_true.1 h2 _ g2
   unfold z6 at hok
   simp only [Bool.and_eq_true,List.isEmpty_iff] at hok
   have hh:=hs.slots t s0 g1
   refine ⟨fun _=>(hh.1 (by rw [hok.1];rfl)).ren fun q hq=>ir (List.all_eq_true.1 hok.2 q hq),fun _ h=>?_⟩
   simp [holds] at h
 ·obtain ⟨o,ho,l⟩:=hq
  simp only [ar.ren,ho] at hb
  exact hs.own o b l hb
def MD (o:Nat) (t:Ty) (l:List t.T):Option Ob→Option Ob
 | some (.box cs)=>some (.box (V.fzs o t l cs))
 | some (.iter m s i)=>some (.iter (V.fz o t l m) s i)
 | b=>b
def GO (o:Nat) (t:Ty) (l:List t.T):ab→ab
 | []=>[]
 | x :: r=>(x.1,MD o t l x.2) :: GO o t l r
def DZ (o:Nat) (t:Ty) (l:List t.T):List (Nat × az)→List (Nat × az)
 | []=>[]
 | x :: r=>(x.1,⟨x.2.ch,V.fz o t l x.2.v⟩) :: DZ o t l r
theorem Hn (o:Nat) (t:Ty) (l:List t.T):∀ (H:ab) (q:Nat),ab.get (GO o t l H) q = MD o t l (ab.get H q)
 | [],q=>rfl
 | (p,b) :: H,q=>by
  have ih:=Hn o t l H q
  rw [GO,ab.get_cons,ab.get_cons]
  split
  ·rfl
  ·exact ih
theorem yJ (o:Nat) (t:Ty) (l:List t.T):∀ (tm:List (Nat × az)) (q:Nat),au (DZ o t l tm) q = (au tm q).map fun s=>⟨s.ch,V.fz o t l s.v⟩
 | [],q=>rfl
 | (p,s) :: r,q=>by
  rw [DZ,aY,aY]
  split
  ·rfl
  ·exact yJ o t l r q
theorem Mp {o:Nat} {t:Ty} {l:List t.T} {v:V} {b:Bool} (h:V.fz o t l v = .c (.lit (.bool b))):v = .c (.lit (.bool b)):=by
 cases v with
 | c d=>exact h
 | agg vs=>simp [V.fz] at h
 | tup vs=>simp [V.fz] at h
 | ptr o' k' i j=>rw [V.fz] at h;cases hb:Nat.beq o' o <;> rw [hb] at h <;> simp at h
 | row o' k' =>
  rw [V.fz] at h
  cases hb:Nat.beq o' o with
  | false=>rw [hb] at h;simp at h
  | true =>
   rw [hb,cond_true] at h
   cases hk:Nat.beq t.k k' <;> rw [hk] at h <;> simp at h
 | sub o' k' i j =>
  rw [V.fz] at h
  cases hb:Nat.beq o' o with
  | false=>rw [hb] at h;simp at h
  | true =>
   rw [hb,cond_true] at h
   cases hk:Nat.beq t.k k' <;> rw [hk] at h <;> simp at h
 | dptr k' cs j=>simp [V.fz] at h
 | fn f vs=>simp [V.fz] at h
theorem IT (o:Nat) (t:Ty) (l:List t.T) (s:Option az):aW (s.map fun s=>⟨s.ch,V.fz o t l s.v⟩) = aW s:=by
 cases s with
 | none=>rfl
 | some s =>
  obtain ⟨ch,v⟩:=s
  cases hb:aW (some ⟨ch,v⟩) with
  | some b =>
   obtain ⟨ch',e⟩:=kI hb
   cases e
   rfl
  | none =>
   cases hb2:aW (Option.map (fun s:az=>(⟨s.ch,V.fz o t l s.v⟩:az)) (some ⟨ch,v⟩)) with
   | none=>rfl
   | some b =>
    obtain ⟨ch',e⟩:=kI hb2
    simp only [Option.map_some,Option.some.injEq,az.mk.injEq] at e
    have:=Mp e.2
    subst this
    simp [aW] at hb
theorem Ks {o:Nat} (hH:aw E w H) {e:TypeId} {t:Ty} {l:List t.T} (hg:H.get o = some (.row e t l)):aw (E.fz o) w ((o,some (.row e t [])) :: GO o t l H):=by
 have h0:=BW hH hg
 refine ⟨fun q ob hq=>?_,h0.inj,h0.sep,h0.lt,h0.oklt⟩
 rw [ab.get_cons] at hq
 split at hq
 ·next e1=>subst e1;cases hq;exact h0.at_ _ _ (by rw [ab.get_cons,if_pos rfl])
 ·next hne =>
  rw [Hn] at hq
  cases hy:ab.get H q with
  | none=>rw [hy] at hq;cases hq
  | some y =>
   rw [hy] at hq
   cases y with
   | row e' t' l'=>cases hq;exact h0.at_ q _ (by rw [ab.get_cons,if_neg hne,dY,hy];rfl)
   | raw x=>cases hq;exact h0.at_ q _ (by rw [ab.get_cons,if_neg hne,dY,hy];rfl)
   | map=>cases hq;exact h0.at_ q _ (by rw [ab.get_cons,if_neg hne,dY,hy];rfl)
   | iter m s0 l0 =>
    cases hq
    obtain ⟨h1,h2,b,bm,s,seen,c,h3,h4,h5,h6⟩:=hH.at_ q _ hy
    obtain ⟨c1,c2,c3⟩:=qT (E:=E) (fun e=>hne e.symm:q≠o)
    exact ⟨h1,c3.trans h2,b,bm,s,seen,c,c1.trans h3,h4,h5,vp hH hg h6⟩
   | box cs =>
    cases hq
    obtain ⟨h1,h2,b,C,te,h3,h4,h5⟩:=hH.at_ q _ hy
    obtain ⟨c1,c2,c3⟩:=qT (E:=E) (fun e=>hne e.symm:q≠o)
    refine ⟨h1,c3.trans h2,b,C,te,c1.trans h3,h4,by rw [iu];exact h5.1,fun i v d hv hd=>?_⟩
    rw [mS] at hd
    cases hx:cs[i]? with
    | none=>rw [hx] at hd;cases hd
    | some y=>rw [hx] at hd;cases hd;exact vp hH hg (h5.2 i v y hv hx)
theorem cO.fz (o:Nat) (e:TypeId) (ty:Ty) (l:List ty.T) (hg:ab.get σ.hp o = some (.row e ty l)):cO σ { tm:=DZ o ty l σ.tm,hp:=(o,some (.row e ty [])) :: GO o ty l σ.hp,nx:=σ.nx }:=by
 refine ⟨fun N B E a w hs=>⟨E.fz o,hs.size,hs.small,hs.defers,hs.live,Ks hs.heap hg,fun t s ht=>?_,hs.base,fun q b hq hb=>hs.own q b hq (lw hb).2,fun b hb=>?_⟩⟩
 ·have ht':au (DZ o ty l σ.tm) t = some s:=ht
  rw [yJ] at ht'
  cases hx:au σ.tm t with
  | none=>rw [hx] at ht'; cases ht'
  | some s0 =>
   rw [hx] at ht'; cases ht'
   have h0:=hs.slots t s0 hx
   have h1:jn σ.tm (E.fz o) w (cA B a t) ⟨s0.ch,V.fz o ty l s0.v⟩:=⟨fun hh=>vp hs.heap hg (h0.1 hh),h0.2⟩
   exact e8 (tm:=σ.tm) h1 fun x _ _=>by
    show aW (au (DZ o ty l σ.tm) x.1) = _
    rw [yJ,IT]
 ·rcases hb with h | h
  ·exact hs.okold b h
  ·exact .inr (hs.own o b (hs.heap.at_ o _ hg).1 h)
theorem cO.nilbox (bo i o:Nat) (e:TypeId) (ty:Ty) (cs:List V) (hn:σ.nx≤o) (hg:ab.get σ.hp bo = some (.box cs)) (hi:cs[i]? = some (.c .nil)):cO σ { tm:=σ.tm,hp:=(bo,some (.box (cs.set i (.row o ty.k)))) :: (o,some (.row e ty [])) :: σ.hp,nx:=o+1 }:=by
 refine ⟨fun N B E a w hs=>?_⟩
 have hf:¬ E.live o:=hs.live o hn
 have hS:cQ E w [] (E.next o none 0 0 E.ok) w:=ck hf none 0 0 E.ok (.refl _ _) (by simp) (fun _ h=>h) (fun _ h=>.inl h)
 have hN:aw (E.next o none 0 0 E.ok) w σ.hp:=cB hf hs.heap (.refl _ _) (by simp) (fun _ h=>h) (fun _ h=>.inl h) hs.heap.oklt
 have hown:∀ q b,(E.next o none 0 0 E.ok).live q→(E.next o none 0 0 E.ok).conc q = some b→B.W.heap.size≤b∨B.mb b:=by
  intro q b ho h
  rcases hS.concnew q b ho h with ⟨q,h1,h2⟩ | h
  ·exact hs.own q b h1 h2
  ·have:=hs.base.size;exact .inl (by omega)
 have hslot:∀ q s,au σ.tm q = some s→(holds σ.tm s.ch = true→af (E.next o none 0 0 E.ok) w (cA B a q) s.v):=fun q s hg' h=>fk hs.heap hS ((hs.slots q s hg').1 h)
 refine ⟨_,hs.size,hs.small,hs.defers,fun q hq=>?_,⟨fun q ob ho=>?_,hN.inj,hN.sep,hN.lt,hN.oklt⟩,fun q s hq=>⟨hslot q s hq,(hs.slots q s hq).2⟩,hs.base,hown,hs.okold⟩
 ·have hq':o+1≤q:=hq
  rintro (h | h)
  ·omega
  ·exact hs.live q (by omega) h
 ·rw [ab.get_cons] at ho
  split at ho
  ·next e' =>
   subst e'; cases ho
   obtain ⟨h1,h2,b,C,t,h3,h4,h5⟩:=hN.at_ _ _ hg
   refine ⟨h1,h2,b,C,t,h3,h4,by rw [List.length_set];exact h5.1,fun j x d hx hd=>?_⟩
   rw [List.getElem?_set] at hd
   split at hd
   ·next e2 =>
    subst e2
    split at hd
    ·cases hd
     have:x = .slice none 0 0:=(h5.2 _ _ _ hx hi).nil_inv
     rw [this]
     exact .row o ty.k none 0 0 (.inl rfl) (by simp [ar.next]) (Nat.le_refl _) (by simp [maxLen]) (.inl ⟨rfl,rfl,rfl,by simp [ar.next]⟩)
    ·cases hd
   ·exact h5.2 _ _ _ hx hd
  ·rw [ab.get_cons] at ho
   split at ho
   ·next e'=>subst e'; cases ho;exact ⟨.inl rfl,by simp [ar.next], .inl ⟨by simp [ar.next],rfl⟩⟩
   ·exact hN.at_ q ob ho
end
end Go.Ax
