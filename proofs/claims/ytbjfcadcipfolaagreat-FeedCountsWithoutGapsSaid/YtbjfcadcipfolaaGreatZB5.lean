import Derived.Test.YtbjfcadcipfolaaGreatZB4
set_option linter.all false
/- States in a canonical form;own rows that become data;nil as a row. -/
namespace Go.Ax
open Go.RowKit
def AO:List Nat→Nat→Nat
 | [],_=>0
 | q :: r,o=>bif Nat.beq q o then 0 else AO r o+1
mutual
def V.ren (os:List Nat):V→V
 | .c d=>.c d
 | .agg vs=>.agg (V.rens os vs)
 | .tup vs=>.tup (V.rens os vs)
 | .ptr o k i j=>.ptr (AO os o) k i j
 | .row o k=>.row (AO os o) k
 | .sub o k off n=>.sub (AO os o) k off n
 | .dptr k cs j=>.dptr k cs j
 | .fn f caps=>.fn f (V.rens os caps)
def V.rens (os:List Nat):List V→List V
 | []=>[]
 | v :: r=>V.ren os v :: V.rens os r
end
def Ob.ren (os:List Nat):Ob→Ob
 | .box cs=>.box (V.rens os cs)
 | .row e t l=>.row e t l
 | .raw x=>.raw x
 | .map t kt vt ks vs=>.map t kt vt ks vs
 | .iter m s l=>.iter (V.ren os m) s l
def Mp (l:List Nat) (x:Nat):List Nat:=bif mm x l then l else l++[x]
def DG (l xs:List Nat):List Nat:=xs.foldl Mp l
def Ro (H:ae) (o:Nat):List Nat:=match ae.get H o with | some (.box cs)=>V.refss cs | some (.iter m _ _)=>V.refs m | _=>[]
def MG (H:ae) (os:List Nat):List Nat:=DG os (os.flatMap (Ro H))
def R2 (tm:List (Nat × aD)):List Nat:=tm.flatMap fun x=>V.refs x.2.v
def xl (tm:List (Nat × aD)) (H:ae):List Nat:=MG H (MG H (MG H (DG [] (R2 tm))))
def LX (os:List Nat) (tm:List (Nat × aD)):List (Nat × aD):=tm.map fun x=>(x.1,⟨[],x.2.v.ren os⟩)
def E7 (H:ae):List Nat→Nat→List Nat→ae
 | _,_,[]=>[]
 | os,i,o :: r=>match ae.get H o with | some b=>(i,some (b.ren os)) :: E7 H os (i+1) r | none=>E7 H os (i+1) r
def canonN (ts:List Nat) (σ:St):St :=
 { tm:=LX (xl (fN ts σ.tm) σ.hp) (fN ts σ.tm),hp:=E7 σ.hp (xl (fN ts σ.tm) σ.hp) 0 (xl (fN ts σ.tm) σ.hp),nx:=(xl (fN ts σ.tm) σ.hp).length }
def iF:List Nat→Bool
 | []=>true
 | o :: r=>!(mm o r)&&iF r
def pE (ts:List Nat) (σ:St):Bool :=
 iF (xl (fN ts σ.tm) σ.hp)&&(fN ts σ.tm).all (fun x=>DJ (xl (fN ts σ.tm) σ.hp) x.2) &&
 (xl (fN ts σ.tm) σ.hp).all (fun o=>match ae.get σ.hp o with | some b=>J5 (xl (fN ts σ.tm) σ.hp) b | none=>true)
section
variable {σ σ' σ'':St} {E:av} {a:Act} {w:World} {N:Nat} {B:ga} {P:Program} {K K':Exit→St→Prop} {H:ae}
theorem uH:∀ {os:List Nat} {o:Nat},o∈os→os[AO os o]? = some o
 | [],o,h=>by simp at h
 | q :: r,o,h=>by
  unfold AO
  cases hb:Nat.beq q o with
  | true =>
   have:=Nat.eq_of_beq_eq_true hb
   subst this;rfl
  | false =>
   have hne:q≠o:=fun e=>by subst e;simp at hb
   rcases List.mem_cons.1 h with h | h
   ·exact (hne h.symm).elim
   ·simpa using uH h
theorem Eg:∀ {os:List Nat},iF os = true→∀ i j o:Nat,os[i]? = some o→os[j]? = some o→i = j
 | [],_,i,j,o,h,_=>by simp at h
 | q :: r,hn,i,j,o,hi,hj=>by
  unfold iF at hn
  simp only [Bool.and_eq_true,Bool.not_eq_true'] at hn
  have hq:∀ o,o∈r→q≠o:=by
   intro o ho e
   subst e
   have:mm q r = true:=List.any_eq_true.2 ⟨q,ho,by simp⟩
   rw [this] at hn
   exact absurd hn.1 (by simp)
  match i,j with
  | 0,0=>rfl
  | 0,j+1 =>
   simp at hi hj
   subst hi
   exact (hq _ (List.mem_of_getElem? hj) rfl).elim
  | i+1,0 =>
   simp at hi hj
   subst hj
   exact (hq _ (List.mem_of_getElem? hi) rfl).elim
  | i+1,j+1 =>
   simp at hi hj
   have:=Eg hn.2 i j o hi hj
   omega
def av.ren (E:av) (os:List Nat):av where
  conc q:=match os[q]? with | some o=>E.conc o | none=>none
  cap q:=match os[q]? with | some o=>E.cap o | none=>0
  len q:=match os[q]? with | some o=>E.len o | none=>0
  live q:=∃ o,os[q]? = some o∧E.live o
  ok:=E.ok
theorem mF (os:List Nat):∀ vs:List V,(V.rens os vs).length = vs.length
 | []=>rfl
 | _ :: r=>by simp [V.rens,mF os r]
theorem th (os:List Nat):∀ (vs:List V) (i:Nat),(V.rens os vs)[i]? = (vs[i]?).map (V.ren os)
 | [],i=>by simp [V.rens]
 | v :: r,0=>by simp [V.rens]
 | v :: r,i+1=>by simp [V.rens,th os r i]
theorem ai.ren {os:List Nat} {v:Value} {d:V} (h:ai E w v d):(∀ o∈V.refs d,o∈os)→ai (E.ren os) w v (d.ren os):=by
 induction h with
 | c v d h=>exact fun _=>.c v d h
 | agg vs ds hl h ih =>
  intro hr
  rw [V.ren]
  refine .agg vs _ (by rw [mF,hl]) fun i v d hv hd=>?_
  rw [th] at hd
  cases hx:ds[i]? with
  | none=>rw [hx] at hd;cases hd
  | some x=>rw [hx] at hd;cases hd;exact ih i v x hv hx fun o ho=>hr o (cK hx ho)
 | tup vs ds hl h ih =>
  intro hr
  rw [V.ren]
  refine .tup vs _ (by rw [mF,hl]) fun i v d hv hd=>?_
  rw [th] at hd
  cases hx:ds[i]? with
  | none=>rw [hx] at hd;cases hd
  | some x=>rw [hx] at hd;cases hd;exact ih i v x hv hx fun o ho=>hr o (cK hx ho)
 | ptr o k i j b h1 h2 h3 =>
  intro hr
  have ho:=uH (hr o (by simp [V.refs]))
  rw [V.ren]
  exact .ptr _ k i j b ⟨o,ho,h1⟩ (by simp only [av.ren,ho];exact h2) (by simp only [av.ren,ho];exact h3)
 | row o k a n c hn hl hc hm h0 =>
  intro hr
  have ho:=uH (hr o (by simp [V.refs]))
  rw [V.ren]
  exact .row _ k a n c ⟨o,ho,hn⟩ (by simp [av.ren,ho,hl]) hc hm (by simpa [av.ren,ho] using h0)
 | sub o k off n a c hn hc hm hl ha =>
  intro hr
  have ho:=uH (hr o (by simp [V.refs]))
  rw [V.ren]
  exact .sub _ k off n a c ⟨o,ho,hn⟩ hc hm (by simpa [av.ren,ho] using hl) (by simpa [av.ren,ho] using ha)
 | dptr k cs j ad u h1 h2 h3 h4=>exact fun _=>.dptr k cs j ad u h1 h2 h3 h4
 | fn f vs ds hl h ih =>
  intro hr
  rw [V.ren]
  refine .fn f vs _ (by rw [mF,hl]) fun i v d hv hd=>?_
  rw [th] at hd
  cases hx:ds[i]? with
  | none=>rw [hx] at hd;cases hd
  | some x=>rw [hx] at hd;cases hd;exact ih i v x hv hx fun o ho=>hr o (cK hx ho)
theorem jB.ren {os:List Nat} {q o:Nat} {b:Ob} (ho:os[q]? = some o) (h:jB E w o b) (hr:J5 os b = true):jB (E.ren os) w q (b.ren os):=by
 cases b with
 | box cs =>
  obtain ⟨e1,b,C,t,e2,e3,e4,e5⟩:=h
  refine ⟨by simp only [av.ren,ho];exact e1,b,C,t,by simp only [av.ren,ho];exact e2,e3, ?_,fun i v d hv hd=>?_⟩
  ·rw [mF];exact e4
  ·rw [th] at hd
   cases hx:cs[i]? with
   | none=>rw [hx] at hd;cases hd
   | some x =>
    rw [hx] at hd;cases hd
    exact (e5 i v x hv hx).ren fun p hp=>jO (List.all_eq_true.1 hr p (cK hx hp))
 | raw x =>
  obtain ⟨h1,b,h2,h3⟩:=h
  exact ⟨by simp only [av.ren,ho];exact h1,b,by simp only [av.ren,ho];exact h2,h3⟩
 | map t kt vt ks vs=>exact qn.mp h (by simp only [av.ren,ho]) (by simp only [av.ren,ho]) (fun _ _=>rfl) fun _ _ h=>h
 | iter m s0 l0 =>
  obtain ⟨e1,b,bm,s,seen,c,e2,e3,e4,e5⟩:=h
  exact ⟨by simp only [av.ren,ho];exact e1,b,bm,s,seen,c,by simp only [av.ren,ho];exact e2,e3,e4,e5.ren fun p hp=>jO (List.all_eq_true.1 hr p hp)⟩
 | row e t l =>
  obtain ⟨h1,h2⟩:=h
  refine ⟨by simp only [av.ren,ho];exact h1, ?_⟩
  rcases h2 with ⟨h2,h3⟩ | ⟨b,C,g1,g2,g3,g4,g5,g6,g7,g8⟩
  ·exact .inl ⟨by simp only [av.ren,ho];exact h2,h3⟩
  ·refine .inr ⟨b,C,by simp only [av.ren,ho];exact g1,g2,by simp only [av.ren,ho];exact g3,by simp only [av.ren,ho];exact g4,by simp only [av.ren,ho];exact g5,g6,g7,g8⟩
theorem GN (os:List Nat):∀ (tm:List (Nat × aD)) (t:Nat),ax (LX os tm) t = (ax tm t).map fun s=>⟨[],s.v.ren os⟩
 | [],t=>by simp [LX,ax]
 | (q,s) :: r,t=>by
  have ih:=GN os r t
  unfold LX at ih ⊢
  rw [List.map_cons,bw,bw]
  split
  ·rfl
  ·exact ih
theorem Cl (H:ae) (os:List Nat):∀ (l:List Nat) (i q:Nat) (b:Ob),ae.get (E7 H os i l) q = some b→∃ o b',l[q - i]? = some o∧i≤q∧ae.get H o = some b'∧b = b'.ren os
 | [],i,q,b,h=>by simp [E7,ae.get] at h
 | o :: r,i,q,b,h=>by
  unfold E7 at h
  split at h
  ·next b' hb' =>
   rw [ae.get_cons] at h
   split at h
   ·next e=>subst e;cases h;exact ⟨o,b',by simp,Nat.le_refl _,hb',rfl⟩
   ·obtain ⟨o',b2,h1,h2,h3,h4⟩:=Cl H os r (i+1) q b h
    refine ⟨o',b2, ?_,by omega,h3,h4⟩
    have:q - i = (q - (i+1))+1:=by omega
    rw [this];simpa using h1
  ·obtain ⟨o',b2,h1,h2,h3,h4⟩:=Cl H os r (i+1) q b h
   refine ⟨o',b2, ?_,by omega,h3,h4⟩
   have:q - i = (q - (i+1))+1:=by omega
   rw [this];simpa using h1
theorem dD.canonN (ts:List Nat) (h:pE ts σ = true):dD σ (canonN ts σ):=by
 unfold pE at h
 simp only [Bool.and_eq_true] at h
 obtain ⟨⟨h1,h2⟩,h3⟩:=h
 unfold Go.Ax.canonN
 generalize xl (fN ts σ.tm) σ.hp = os at h1 h2 h3 ⊢
 refine ⟨fun N B E a w hs=>⟨E.ren os,hs.size,hs.small,hs.defers,fun q hq hl=>?_,⟨fun q ob ho=>?_,fun q q' b hq hq' hb hb'=>?_,fun q b hq hb=>?_,fun q b hq hb=>?_,hs.heap.oklt⟩,fun t s hg=>?_,hs.base,fun q b hq hb=>?_,hs.okold⟩⟩
 ·obtain ⟨o,ho,_⟩:=hl
  have hlt:=(List.getElem?_eq_some_iff.1 ho).1
  have hq':os.length≤q:=hq
  omega
 ·obtain ⟨o,b',g1,g2,g3,rfl⟩:=Cl σ.hp os os 0 q ob ho
  have g1':os[q]? = some o:=by simpa using g1
  obtain ⟨l1,l2⟩:=hs.heap.at_ o b' g3
  have hok:=List.all_eq_true.1 h3 o (List.mem_of_getElem? g1')
  rw [g3] at hok
  exact ⟨⟨o,g1',l1⟩,l2.ren g1' hok⟩
 ·obtain ⟨o,ho,l⟩:=hq
  obtain ⟨o',ho',l'⟩:=hq'
  simp only [av.ren,ho] at hb
  simp only [av.ren,ho'] at hb'
  have:=hs.heap.inj o o' b l l' hb hb'
  subst this
  exact Eg h1 q q' o ho ho'
 ·obtain ⟨o,ho,l⟩:=hq
  simp only [av.ren,ho] at hb
  exact hs.heap.sep o b l hb
 ·obtain ⟨o,ho,l⟩:=hq
  simp only [av.ren,ho] at hb
  exact hs.heap.lt o b l hb
 ·rw [GN] at hg
  cases hk:ax (fN ts σ.tm) t with
  | none=>rw [hk] at hg;cases hg
  | some s0 =>
   rw [hk] at hg
   cases hg
   obtain ⟨g1,g2⟩:=uR ts σ.tm t s0 hk
   have hok:=List.all_eq_true.1 h2 _ g2
   unfold DJ at hok
   simp only [Bool.and_eq_true,List.isEmpty_iff] at hok
   have hh:=hs.slots t s0 g1
   refine ⟨fun _=>(hh.1 (by rw [hok.1];rfl)).ren fun q hq=>jO (List.all_eq_true.1 hok.2 q hq),fun _ h=>?_⟩
   simp [holds] at h
 ·obtain ⟨o,ho,l⟩:=hq
  simp only [av.ren,ho] at hb
  exact hs.own o b l hb
def RG (o:Nat) (t:Ty) (l:List t.T):Option Ob→Option Ob
 | some (.box cs)=>some (.box (V.fzs o t l cs))
 | some (.iter m s i)=>some (.iter (V.fz o t l m) s i)
 | b=>b
def K7 (o:Nat) (t:Ty) (l:List t.T):ae→ae
 | []=>[]
 | x :: r=>(x.1,RG o t l x.2) :: K7 o t l r
def IF (o:Nat) (t:Ty) (l:List t.T):List (Nat × aD)→List (Nat × aD)
 | []=>[]
 | x :: r=>(x.1,⟨x.2.ch,V.fz o t l x.2.v⟩) :: IF o t l r
theorem LF (o:Nat) (t:Ty) (l:List t.T):∀ (H:ae) (q:Nat),ae.get (K7 o t l H) q = RG o t l (ae.get H q)
 | [],q=>rfl
 | (p,b) :: H,q=>by
  have ih:=LF o t l H q
  rw [K7,ae.get_cons,ae.get_cons]
  split
  ·rfl
  ·exact ih
theorem C2 (o:Nat) (t:Ty) (l:List t.T):∀ (tm:List (Nat × aD)) (q:Nat),ax (IF o t l tm) q = (ax tm q).map fun s=>⟨s.ch,V.fz o t l s.v⟩
 | [],q=>rfl
 | (p,s) :: r,q=>by
  rw [IF,bw,bw]
  split
  ·rfl
  ·exact C2 o t l r q
theorem QU {o:Nat} {t:Ty} {l:List t.T} {v:V} {b:Bool} (h:V.fz o t l v = .c (.lit (.bool b))):v = .c (.lit (.bool b)):=by
 cases v with
 | c d=>exact h
 | agg vs=>simp [V.fz] at h
 | tup vs=>simp [V.fz] at h
 | ptr o' k' i j=>rw [V.fz] at h;cases hb:Nat.beq o' o <;> rw [hb] at h <;> simp at h
 | row o' k' =>
  rw [V.fz] at h
  cases hb:Nat.beq o' o with
  | false=>rw [hb] at h;simp at h
  | true =>
   rw [hb,cond_true] at h
   cases hk:Nat.beq t.k k' <;> rw [hk] at h <;> simp at h
 | sub o' k' i j =>
  rw [V.fz] at h
  cases hb:Nat.beq o' o with
  | false=>rw [hb] at h;simp at h
  | true =>
   rw [hb,cond_true] at h
   cases hk:Nat.beq t.k k' <;> rw [hk] at h <;> simp at h
 | dptr k' cs j=>simp [V.fz] at h
 | fn f vs=>simp [V.fz] at h
theorem Om (o:Nat) (t:Ty) (l:List t.T) (s:Option aD):bq (s.map fun s=>⟨s.ch,V.fz o t l s.v⟩) = bq s:=by
 cases s with
 | none=>rfl
 | some s =>
  obtain ⟨ch,v⟩:=s
  cases hb:bq (some ⟨ch,v⟩) with
  | some b =>
   obtain ⟨ch',e⟩:=mu hb
   cases e
   rfl
  | none =>
   cases hb2:bq (Option.map (fun s:aD=>(⟨s.ch,V.fz o t l s.v⟩:aD)) (some ⟨ch,v⟩)) with
   | none=>rfl
   | some b =>
    obtain ⟨ch',e⟩:=mu hb2
    simp only [Option.map_some,Option.some.injEq,aD.mk.injEq] at e
    have:=QU e.2
    subst this
    simp [bq] at hb
theorem OM {o:Nat} (hH:az E w H) {e:TypeId} {t:Ty} {l:List t.T} (hg:H.get o = some (.row e t l)):az (E.fz o) w ((o,some (.row e t [])) :: K7 o t l H):=by
 have h0:=FD hH hg
 refine ⟨fun q ob hq=>?_,h0.inj,h0.sep,h0.lt,h0.oklt⟩
 rw [ae.get_cons] at hq
 split at hq
 ·next e1=>subst e1;cases hq;exact h0.at_ _ _ (by rw [ae.get_cons,if_pos rfl])
 ·next hne =>
  rw [LF] at hq
  cases hy:ae.get H q with
  | none=>rw [hy] at hq;cases hq
  | some y =>
   rw [hy] at hq
   cases y with
   | row e' t' l'=>cases hq;exact h0.at_ q _ (by rw [ae.get_cons,if_neg hne,fh,hy];rfl)
   | raw x=>cases hq;exact h0.at_ q _ (by rw [ae.get_cons,if_neg hne,fh,hy];rfl)
   | map=>cases hq;exact h0.at_ q _ (by rw [ae.get_cons,if_neg hne,fh,hy];rfl)
   | iter m s0 l0 =>
    cases hq
    obtain ⟨h1,h2,b,bm,s,seen,c,h3,h4,h5,h6⟩:=hH.at_ q _ hy
    obtain ⟨c1,c2,c3⟩:=u4 (E:=E) (fun e=>hne e.symm:q≠o)
    exact ⟨h1,c3.trans h2,b,bm,s,seen,c,c1.trans h3,h4,h5,Aq hH hg h6⟩
   | box cs =>
    cases hq
    obtain ⟨h1,h2,b,C,te,h3,h4,h5⟩:=hH.at_ q _ hy
    obtain ⟨c1,c2,c3⟩:=u4 (E:=E) (fun e=>hne e.symm:q≠o)
    refine ⟨h1,c3.trans h2,b,C,te,c1.trans h3,h4,by rw [jD];exact h5.1,fun i v d hv hd=>?_⟩
    rw [qa] at hd
    cases hx:cs[i]? with
    | none=>rw [hx] at hd;cases hd
    | some y=>rw [hx] at hd;cases hd;exact Aq hH hg (h5.2 i v y hv hx)
theorem dD.fz (o:Nat) (e:TypeId) (ty:Ty) (l:List ty.T) (hg:ae.get σ.hp o = some (.row e ty l)):dD σ { tm:=IF o ty l σ.tm,hp:=(o,some (.row e ty [])) :: K7 o ty l σ.hp,nx:=σ.nx }:=by
 refine ⟨fun N B E a w hs=>⟨E.fz o,hs.size,hs.small,hs.defers,hs.live,OM hs.heap hg,fun t s ht=>?_,hs.base,fun q b hq hb=>hs.own q b hq (nv hb).2,fun b hb=>?_⟩⟩
 ·have ht':ax (IF o ty l σ.tm) t = some s:=ht
  rw [C2] at ht'
  cases hx:ax σ.tm t with
  | none=>rw [hx] at ht'; cases ht'
  | some s0 =>
   rw [hx] at ht'; cases ht'
   have h0:=hs.slots t s0 hx
   have h1:kV σ.tm (E.fz o) w (eE B a t) ⟨s0.ch,V.fz o ty l s0.v⟩:=⟨fun hh=>Aq hs.heap hg (h0.1 hh),h0.2⟩
   exact gA (tm:=σ.tm) h1 fun x _ _=>by
    show bq (ax (IF o ty l σ.tm) x.1) = _
    rw [C2,Om]
 ·rcases hb with h | h
  ·exact hs.okold b h
  ·exact .inr (hs.own o b (hs.heap.at_ o _ hg).1 h)
theorem dD.nilbox (bo i o:Nat) (e:TypeId) (ty:Ty) (cs:List V) (hn:σ.nx≤o) (hg:ae.get σ.hp bo = some (.box cs)) (hi:cs[i]? = some (.c .nil)):dD σ { tm:=σ.tm,hp:=(bo,some (.box (cs.set i (.row o ty.k)))) :: (o,some (.row e ty [])) :: σ.hp,nx:=o+1 }:=by
 refine ⟨fun N B E a w hs=>?_⟩
 have hf:¬ E.live o:=hs.live o hn
 have hS:dH E w [] (E.next o none 0 0 E.ok) w:=cZ hf none 0 0 E.ok (.refl _ _) (by simp) (fun _ h=>h) (fun _ h=>.inl h)
 have hN:az (E.next o none 0 0 E.ok) w σ.hp:=dw hf hs.heap (.refl _ _) (by simp) (fun _ h=>h) (fun _ h=>.inl h) hs.heap.oklt
 have hown:∀ q b,(E.next o none 0 0 E.ok).live q→(E.next o none 0 0 E.ok).conc q = some b→B.W.heap.size≤b∨B.mb b:=by
  intro q b ho h
  rcases hS.concnew q b ho h with ⟨q,h1,h2⟩ | h
  ·exact hs.own q b h1 h2
  ·have:=hs.base.size;exact .inl (by omega)
 have hslot:∀ q s,ax σ.tm q = some s→(holds σ.tm s.ch = true→ai (E.next o none 0 0 E.ok) w (eE B a q) s.v):=fun q s hg' h=>gR hs.heap hS ((hs.slots q s hg').1 h)
 refine ⟨_,hs.size,hs.small,hs.defers,fun q hq=>?_,⟨fun q ob ho=>?_,hN.inj,hN.sep,hN.lt,hN.oklt⟩,fun q s hq=>⟨hslot q s hq,(hs.slots q s hq).2⟩,hs.base,hown,hs.okold⟩
 ·have hq':o+1≤q:=hq
  rintro (h | h)
  ·omega
  ·exact hs.live q (by omega) h
 ·rw [ae.get_cons] at ho
  split at ho
  ·next e' =>
   subst e'; cases ho
   obtain ⟨h1,h2,b,C,t,h3,h4,h5⟩:=hN.at_ _ _ hg
   refine ⟨h1,h2,b,C,t,h3,h4,by rw [List.length_set];exact h5.1,fun j x d hx hd=>?_⟩
   rw [List.getElem?_set] at hd
   split at hd
   ·next e2 =>
    subst e2
    split at hd
    ·cases hd
     have:x = .slice none 0 0:=(h5.2 _ _ _ hx hi).nil_inv
     rw [this]
     exact .row o ty.k none 0 0 (.inl rfl) (by simp [av.next]) (Nat.le_refl _) (by simp [maxLen]) (.inl ⟨rfl,rfl,rfl,by simp [av.next]⟩)
    ·cases hd
   ·exact h5.2 _ _ _ hx hd
  ·rw [ae.get_cons] at ho
   split at ho
   ·next e'=>subst e'; cases ho;exact ⟨.inl rfl,by simp [av.next], .inl ⟨by simp [av.next],rfl⟩⟩
   ·exact hN.at_ q ob ho
end
end Go.Ax
