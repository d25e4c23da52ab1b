import Derived.Test.YtokecajedkojlaaGreatYB4
set_option linter.all false
/- States in a canonical form; own rows that become data; nil as a row. -/
namespace Go.Ax
open Go.RowKit
def xU:List Nat→Nat→Nat
  | [],_=>0
  | q :: r,o=>bif Nat.beq q o then 0 else xU r o+1
mutual
def V.ren (os:List Nat):V→V
  | .c d=>.c d
  | .agg vs=>.agg (V.rens os vs)
  | .tup vs=>.tup (V.rens os vs)
  | .ptr o k i j=>.ptr (xU os o) k i j
  | .row o k=>.row (xU os o) k
  | .sub o k off n=>.sub (xU os o) k off n
  | .dptr k cs j=>.dptr k cs j
  | .fn f caps=>.fn f (V.rens os caps)
def V.rens (os:List Nat):List V→List V
  | []=>[]
  | v :: r=>V.ren os v :: V.rens os r
end
def Ob.ren (os:List Nat):Ob→Ob
  | .box cs=>.box (V.rens os cs)
  | .row e t l=>.row e t l
  | .raw x=>.raw x
  | .map t kt vt ks vs=>.map t kt vt ks vs
def KN (l:List Nat) (x:Nat):List Nat:=bif dA x l then l else l++[x]
def AS (l xs:List Nat):List Nat:=xs.foldl KN l
def OL (H:af) (o:Nat):List Nat:=match af.get H o with | some (.box cs)=>V.refss cs | _=>[]
def JK (H:af) (os:List Nat):List Nat:=AS os (os.flatMap (OL H))
def Pj (tm:List (Nat × ax)):List Nat:=tm.flatMap fun x=>V.refs x.2.v
def tZ (tm:List (Nat × ax)) (H:af):List Nat:=JK H (JK H (JK H (AS [] (Pj tm))))
def Kh (os:List Nat) (tm:List (Nat × ax)):List (Nat × ax):=tm.map fun x=>(x.1,⟨[],x.2.v.ren os⟩)
def CV (H:af):List Nat→Nat→List Nat→af
  | _,_,[]=>[]
  | os,i,o :: r=>match af.get H o with | some b=>(i,some (b.ren os)) :: CV H os (i+1) r | none=>CV H os (i+1) r
def canonN (ts:List Nat) (σ:St):St :=
  { tm:=Kh (tZ (eH ts σ.tm) σ.hp) (eH ts σ.tm),hp:=CV σ.hp (tZ (eH ts σ.tm) σ.hp) 0 (tZ (eH ts σ.tm) σ.hp),nx:=(tZ (eH ts σ.tm) σ.hp).length }
def gi:List Nat→Bool
  | []=>true
  | o :: r=>!(dA o r)&&gi r
def mW (ts:List Nat) (σ:St):Bool :=
  gi (tZ (eH ts σ.tm) σ.hp)&&(eH ts σ.tm).all (fun x=>Bi (tZ (eH ts σ.tm) σ.hp) x.2) &&
  (tZ (eH ts σ.tm) σ.hp).all (fun o=>match af.get σ.hp o with | some b=>FM (tZ (eH ts σ.tm) σ.hp) b | none=>true)
section
variable {σ σ' σ'':St} {E:aq} {a:Act} {w:World} {N:Nat} {B:gp} {P:Program} {K K':Exit→St→Prop} {H:af}
theorem rC:∀ {os:List Nat} {o:Nat},o∈os→os[xU os o]? = some o
  | [],o,h=>by simp at h
  | q :: r,o,h=>by
    unfold xU
    cases hb:Nat.beq q o with
    | true =>
      have:=Nat.eq_of_beq_eq_true hb
      subst this; rfl
    | false =>
      have hne:q≠o:=fun e=>by subst e; simp at hb
      rcases List.mem_cons.1 h with h | h
      · exact (hne h.symm).elim
      · simpa using rC h
theorem Be:∀ {os:List Nat},gi os = true→∀ i j o:Nat,os[i]? = some o→os[j]? = some o→i = j
  | [],_,i,j,o,h,_=>by simp at h
  | q :: r,hn,i,j,o,hi,hj=>by
    unfold gi at hn
    simp only [Bool.and_eq_true,Bool.not_eq_true'] at hn
    have hq:∀ o,o∈r→q≠o:=by
      intro o ho e
      subst e
      have:dA q r = true:=List.any_eq_true.2 ⟨q,ho,by simp⟩
      rw [this] at hn
      exact absurd hn.1 (by simp)
    match i,j with
    | 0,0=>rfl
    | 0,j+1 =>
      simp at hi hj
      subst hi
      exact (hq _ (List.mem_of_getElem? hj) rfl).elim
    | i+1,0 =>
      simp at hi hj
      subst hj
      exact (hq _ (List.mem_of_getElem? hi) rfl).elim
    | i+1,j+1 =>
      simp at hi hj
      have:=Be hn.2 i j o hi hj
      omega
def aq.ren (E:aq) (os:List Nat):aq where
  conc q:=match os[q]? with | some o=>E.conc o | none=>none
  cap q:=match os[q]? with | some o=>E.cap o | none=>0
  len q:=match os[q]? with | some o=>E.len o | none=>0
  live q:=∃ o,os[q]? = some o∧E.live o
  ok:=E.ok
theorem kX (os:List Nat):∀ vs:List V,(V.rens os vs).length = vs.length
  | []=>rfl
  | _ :: r=>by simp [V.rens,kX os r]
theorem pX (os:List Nat):∀ (vs:List V) (i:Nat),(V.rens os vs)[i]? = (vs[i]?).map (V.ren os)
  | [],i=>by simp [V.rens]
  | v :: r,0=>by simp [V.rens]
  | v :: r,i+1=>by simp [V.rens,pX os r i]
theorem al.ren {os:List Nat} {v:Value} {d:V} (h:al E w v d):(∀ o∈V.refs d,o∈os)→al (E.ren os) w v (d.ren os):=by
  induction h with
  | c v d h=>exact fun _=>.c v d h
  | agg vs ds hl h ih =>
    intro hr
    rw [V.ren]
    refine .agg vs _ (by rw [kX,hl]) fun i v d hv hd=>?_
    rw [pX] at hd
    cases hx:ds[i]? with
    | none=>rw [hx] at hd; cases hd
    | some x=>rw [hx] at hd; cases hd; exact ih i v x hv hx fun o ho=>hr o (bS hx ho)
  | tup vs ds hl h ih =>
    intro hr
    rw [V.ren]
    refine .tup vs _ (by rw [kX,hl]) fun i v d hv hd=>?_
    rw [pX] at hd
    cases hx:ds[i]? with
    | none=>rw [hx] at hd; cases hd
    | some x=>rw [hx] at hd; cases hd; exact ih i v x hv hx fun o ho=>hr o (bS hx ho)
  | ptr o k i j b h1 h2 h3 =>
    intro hr
    have ho:=rC (hr o (by simp [V.refs]))
    rw [V.ren]
    exact .ptr _ k i j b ⟨o,ho,h1⟩ (by simp only [aq.ren,ho]; exact h2) (by simp only [aq.ren,ho]; exact h3)
  | row o k a n c hn hl hc hm h0 =>
    intro hr
    have ho:=rC (hr o (by simp [V.refs]))
    rw [V.ren]
    exact .row _ k a n c ⟨o,ho,hn⟩ (by simp [aq.ren,ho,hl]) hc hm (by simpa [aq.ren,ho] using h0)
  | sub o k off n a c hn hc hm hl ha =>
    intro hr
    have ho:=rC (hr o (by simp [V.refs]))
    rw [V.ren]
    exact .sub _ k off n a c ⟨o,ho,hn⟩ hc hm (by simpa [aq.ren,ho] using hl) (by simpa [aq.ren,ho] using ha)
  | dptr k cs j ad u h1 h2 h3 h4=>exact fun _=>.dptr k cs j ad u h1 h2 h3 h4
  | fn f vs ds hl h ih =>
    intro hr
    rw [V.ren]
    refine .fn f vs _ (by rw [kX,hl]) fun i v d hv hd=>?_
    rw [pX] at hd
    cases hx:ds[i]? with
    | none=>rw [hx] at hd; cases hd
    | some x=>rw [hx] at hd; cases hd; exact ih i v x hv hx fun o ho=>hr o (bS hx ho)
theorem iB.ren {os:List Nat} {q o:Nat} {b:Ob} (ho:os[q]? = some o) (h:iB E w o b) (hr:FM os b = true):iB (E.ren os) w q (b.ren os):=by
  cases b with
  | box cs =>
    obtain ⟨e1,b,C,t,e2,e3,e4,e5⟩:=h
    refine ⟨by simp only [aq.ren,ho]; exact e1,b,C,t,by simp only [aq.ren,ho]; exact e2,e3, ?_,fun i v d hv hd=>?_⟩
    · rw [kX]; exact e4
    · rw [pX] at hd
      cases hx:cs[i]? with
      | none=>rw [hx] at hd; cases hd
      | some x =>
        rw [hx] at hd; cases hd
        exact (e5 i v x hv hx).ren fun p hp=>iG (List.all_eq_true.1 hr p (bS hx hp))
  | raw x =>
    obtain ⟨h1,b,h2,h3⟩:=h
    exact ⟨by simp only [aq.ren,ho]; exact h1,b,by simp only [aq.ren,ho]; exact h2,h3⟩
  | map t kt vt ks vs=>exact nA.mp h (by simp only [aq.ren,ho]) (by simp only [aq.ren,ho]) (fun _ _=>rfl) fun _ _ h=>h
  | row e t l =>
    obtain ⟨h1,h2⟩:=h
    refine ⟨by simp only [aq.ren,ho]; exact h1, ?_⟩
    rcases h2 with ⟨h2,h3⟩ | ⟨b,C,g1,g2,g3,g4,g5,g6,g7,g8⟩
    · exact .inl ⟨by simp only [aq.ren,ho]; exact h2,h3⟩
    · refine .inr ⟨b,C,by simp only [aq.ren,ho]; exact g1,g2,by simp only [aq.ren,ho]; exact g3,by simp only [aq.ren,ho]; exact g4,by simp only [aq.ren,ho]; exact g5,g6,g7,g8⟩
theorem Et (os:List Nat):∀ (tm:List (Nat × ax)) (t:Nat),au (Kh os tm) t = (au tm t).map fun s=>⟨[],s.v.ren os⟩
  | [],t=>by simp [Kh,au]
  | (q,s) :: r,t=>by
    have ih:=Et os r t
    unfold Kh at ih ⊢
    rw [List.map_cons,aX,aX]
    split
    · rfl
    · exact ih
theorem zZ (H:af) (os:List Nat):∀ (l:List Nat) (i q:Nat) (b:Ob),af.get (CV H os i l) q = some b→∃ o b',l[q - i]? = some o∧i≤q∧af.get H o = some b'∧b = b'.ren os
  | [],i,q,b,h=>by simp [CV,af.get] at h
  | o :: r,i,q,b,h=>by
    unfold CV at h
    split at h
    · next b' hb' =>
      rw [af.get_cons] at h
      split at h
      · next e=>subst e; cases h; exact ⟨o,b',by simp,Nat.le_refl _,hb',rfl⟩
      · obtain ⟨o',b2,h1,h2,h3,h4⟩:=zZ H os r (i+1) q b h
        refine ⟨o',b2, ?_,by omega,h3,h4⟩
        have:q - i = (q - (i+1))+1:=by omega
        rw [this]; simpa using h1
    · obtain ⟨o',b2,h1,h2,h3,h4⟩:=zZ H os r (i+1) q b h
      refine ⟨o',b2, ?_,by omega,h3,h4⟩
      have:q - i = (q - (i+1))+1:=by omega
      rw [this]; simpa using h1
theorem cY.canonN (ts:List Nat) (h:mW ts σ = true):cY σ (canonN ts σ):=by
  unfold mW at h
  simp only [Bool.and_eq_true] at h
  obtain ⟨⟨h1,h2⟩,h3⟩:=h
  unfold Go.Ax.canonN
  generalize tZ (eH ts σ.tm) σ.hp = os at h1 h2 h3 ⊢
  refine ⟨fun N B E a w hs=>⟨E.ren os,hs.size,hs.small,hs.defers,fun q hq hl=>?_,⟨fun q ob ho=>?_,fun q q' b hq hq' hb hb'=>?_,fun q b hq hb=>?_,fun q b hq hb=>?_,hs.heap.oklt⟩,fun t s hg=>?_,hs.base,fun q b hq hb=>?_,hs.okold⟩⟩
  · obtain ⟨o,ho,_⟩:=hl
    have hlt:=(List.getElem?_eq_some_iff.1 ho).1
    have hq':os.length≤q:=hq
    omega
  · obtain ⟨o,b',g1,g2,g3,rfl⟩:=zZ σ.hp os os 0 q ob ho
    have g1':os[q]? = some o:=by simpa using g1
    obtain ⟨l1,l2⟩:=hs.heap.at_ o b' g3
    have hok:=List.all_eq_true.1 h3 o (List.mem_of_getElem? g1')
    rw [g3] at hok
    exact ⟨⟨o,g1',l1⟩,l2.ren g1' hok⟩
  · obtain ⟨o,ho,l⟩:=hq
    obtain ⟨o',ho',l'⟩:=hq'
    simp only [aq.ren,ho] at hb
    simp only [aq.ren,ho'] at hb'
    have:=hs.heap.inj o o' b l l' hb hb'
    subst this
    exact Be h1 q q' o ho ho'
  · obtain ⟨o,ho,l⟩:=hq
    simp only [aq.ren,ho] at hb
    exact hs.heap.sep o b l hb
  · obtain ⟨o,ho,l⟩:=hq
    simp only [aq.ren,ho] at hb
    exact hs.heap.lt o b l hb
  · rw [Et] at hg
    cases hk:au (eH ts σ.tm) t with
    | none=>rw [hk] at hg; cases hg
    | some s0 =>
      rw [hk] at hg
      cases hg
      obtain ⟨g1,g2⟩:=rP ts σ.tm t s0 hk
      have hok:=List.all_eq_true.1 h2 _ g2
      unfold Bi at hok
      simp only [Bool.and_eq_true,List.isEmpty_iff] at hok
      have hh:=hs.slots t s0 g1
      refine ⟨fun _=>(hh.1 (by rw [hok.1]; rfl)).ren fun q hq=>iG (List.all_eq_true.1 hok.2 q hq),fun _ h=>?_⟩
      simp [holds] at h
  · obtain ⟨o,ho,l⟩:=hq
    simp only [aq.ren,ho] at hb
    exact hs.own o b l hb
def OZ (o:Nat) (t:Ty) (l:List t.T):Option Ob→Option Ob
  | some (.box cs)=>some (.box (V.fzs o t l cs))
  | b=>b
def Jr (o:Nat) (t:Ty) (l:List t.T):af→af
  | []=>[]
  | x :: r=>(x.1,OZ o t l x.2) :: Jr o t l r
def FK (o:Nat) (t:Ty) (l:List t.T):List (Nat × ax)→List (Nat × ax)
  | []=>[]
  | x :: r=>(x.1,⟨x.2.ch,V.fz o t l x.2.v⟩) :: FK o t l r
theorem IT (o:Nat) (t:Ty) (l:List t.T):∀ (H:af) (q:Nat),af.get (Jr o t l H) q = OZ o t l (af.get H q)
  | [],q=>rfl
  | (p,b) :: H,q=>by
    have ih:=IT o t l H q
    rw [Jr,af.get_cons,af.get_cons]
    split
    · rfl
    · exact ih
theorem zE (o:Nat) (t:Ty) (l:List t.T):∀ (tm:List (Nat × ax)) (q:Nat),au (FK o t l tm) q = (au tm q).map fun s=>⟨s.ch,V.fz o t l s.v⟩
  | [],q=>rfl
  | (p,s) :: r,q=>by
    rw [FK,aX,aX]
    split
    · rfl
    · exact zE o t l r q
theorem NO {o:Nat} {t:Ty} {l:List t.T} {v:V} {b:Bool} (h:V.fz o t l v = .c (.lit (.bool b))):v = .c (.lit (.bool b)):=by
  cases v with
  | c d=>exact h
  | agg vs=>simp [V.fz] at h
  | tup vs=>simp [V.fz] at h
  | ptr o' k' i j=>rw [V.fz] at h; cases hb:Nat.beq o' o <;> rw [hb] at h <;> simp at h
  | row o' k' =>
    rw [V.fz] at h
    cases hb:Nat.beq o' o with
    | false=>rw [hb] at h; simp at h
    | true =>
      rw [hb,cond_true] at h
      cases hk:Nat.beq t.k k' <;> rw [hk] at h <;> simp at h
  | sub o' k' i j =>
    rw [V.fz] at h
    cases hb:Nat.beq o' o with
    | false=>rw [hb] at h; simp at h
    | true =>
      rw [hb,cond_true] at h
      cases hk:Nat.beq t.k k' <;> rw [hk] at h <;> simp at h
  | dptr k' cs j=>simp [V.fz] at h
  | fn f vs=>simp [V.fz] at h
theorem Lk (o:Nat) (t:Ty) (l:List t.T) (s:Option ax):aQ (s.map fun s=>⟨s.ch,V.fz o t l s.v⟩) = aQ s:=by
  cases s with
  | none=>rfl
  | some s =>
    obtain ⟨ch,v⟩:=s
    cases hb:aQ (some ⟨ch,v⟩) with
    | some b =>
      obtain ⟨ch',e⟩:=kR hb
      cases e
      rfl
    | none =>
      cases hb2:aQ (Option.map (fun s:ax=>(⟨s.ch,V.fz o t l s.v⟩:ax)) (some ⟨ch,v⟩)) with
      | none=>rfl
      | some b =>
        obtain ⟨ch',e⟩:=kR hb2
        simp only [Option.map_some,Option.some.injEq,ax.mk.injEq] at e
        have:=NO e.2
        subst this
        simp [aQ] at hb
theorem MI {o:Nat} (hH:av E w H) {e:TypeId} {t:Ty} {l:List t.T} (hg:H.get o = some (.row e t l)):av (E.fz o) w ((o,some (.row e t [])) :: Jr o t l H):=by
  have h0:=CY hH hg
  refine ⟨fun q ob hq=>?_,h0.inj,h0.sep,h0.lt,h0.oklt⟩
  rw [af.get_cons] at hq
  split at hq
  · next e1=>subst e1; cases hq; exact h0.at_ _ _ (by rw [af.get_cons,if_pos rfl])
  · next hne =>
    rw [IT] at hq
    cases hy:af.get H q with
    | none=>rw [hy] at hq; cases hq
    | some y =>
      rw [hy] at hq
      cases y with
      | row e' t' l'=>cases hq; exact h0.at_ q _ (by rw [af.get_cons,if_neg hne,ek,hy]; rfl)
      | raw x=>cases hq; exact h0.at_ q _ (by rw [af.get_cons,if_neg hne,ek,hy]; rfl)
      | map=>cases hq; exact h0.at_ q _ (by rw [af.get_cons,if_neg hne,ek,hy]; rfl)
      | box cs =>
        cases hq
        obtain ⟨h1,h2,b,C,te,h3,h4,h5⟩:=hH.at_ q _ hy
        obtain ⟨c1,c2,c3⟩:=tQ (E:=E) (fun e=>hne e.symm:q≠o)
        refine ⟨h1,c3.trans h2,b,C,te,c1.trans h3,h4,by rw [ik]; exact h5.1,fun i v d hv hd=>?_⟩
        rw [mX] at hd
        cases hx:cs[i]? with
        | none=>rw [hx] at hd; cases hd
        | some y=>rw [hx] at hd; cases hd; exact Aj hH hg (h5.2 i v y hv hx)
theorem cY.fz (o:Nat) (e:TypeId) (ty:Ty) (l:List ty.T) (hg:af.get σ.hp o = some (.row e ty l)):cY σ { tm:=FK o ty l σ.tm,hp:=(o,some (.row e ty [])) :: Jr o ty l σ.hp,nx:=σ.nx }:=by
  refine ⟨fun N B E a w hs=>⟨E.fz o,hs.size,hs.small,hs.defers,hs.live,MI hs.heap hg,fun t s ht=>?_,hs.base,fun q b hq hb=>hs.own q b hq (lz hb).2,fun b hb=>?_⟩⟩
  · have ht':au (FK o ty l σ.tm) t = some s:=ht
    rw [zE] at ht'
    cases hx:au σ.tm t with
    | none=>rw [hx] at ht'; cases ht'
    | some s0 =>
      rw [hx] at ht'; cases ht'
      have h0:=hs.slots t s0 hx
      have h1:j6 σ.tm (E.fz o) w (dD B a t) ⟨s0.ch,V.fz o ty l s0.v⟩:=⟨fun hh=>Aj hs.heap hg (h0.1 hh),h0.2⟩
      exact e8 (tm:=σ.tm) h1 fun x _ _=>by
        show aQ (au (FK o ty l σ.tm) x.1) = _
        rw [zE,Lk]
  · rcases hb with h | h
    · exact hs.okold b h
    · exact .inr (hs.own o b (hs.heap.at_ o _ hg).1 h)
theorem cY.nilbox (bo i o:Nat) (e:TypeId) (ty:Ty) (cs:List V) (hn:σ.nx≤o) (hg:af.get σ.hp bo = some (.box cs)) (hi:cs[i]? = some (.c .nil)):cY σ { tm:=σ.tm,hp:=(bo,some (.box (cs.set i (.row o ty.k)))) :: (o,some (.row e ty [])) :: σ.hp,nx:=o+1 }:=by
  refine ⟨fun N B E a w hs=>?_⟩
  have hf:¬ E.live o:=hs.live o hn
  have hS:dl E w [] (E.next o none 0 0 E.ok) w:=dg hf none 0 0 E.ok (.refl _ _) (by simp) (fun _ h=>h) (fun _ h=>.inl h)
  have hN:av (E.next o none 0 0 E.ok) w σ.hp:=dx hf hs.heap (.refl _ _) (by simp) (fun _ h=>h) (fun _ h=>.inl h) hs.heap.oklt
  have hown:∀ q b,(E.next o none 0 0 E.ok).live q→(E.next o none 0 0 E.ok).conc q = some b→B.W.heap.size≤b∨B.mb b:=by
    intro q b ho h
    rcases hS.concnew q b ho h with ⟨q,h1,h2⟩ | h
    · exact hs.own q b h1 h2
    · have:=hs.base.size; exact .inl (by omega)
  have hslot:∀ q s,au σ.tm q = some s→(holds σ.tm s.ch = true→al (E.next o none 0 0 E.ok) w (dD B a q) s.v):=fun q s hg' h=>gq hs.heap hS ((hs.slots q s hg').1 h)
  refine ⟨_,hs.size,hs.small,hs.defers,fun q hq=>?_,⟨fun q ob ho=>?_,hN.inj,hN.sep,hN.lt,hN.oklt⟩,fun q s hq=>⟨hslot q s hq,(hs.slots q s hq).2⟩,hs.base,hown,hs.okold⟩
  · have hq':o+1≤q:=hq
    rintro (h | h)
    · omega
    · exact hs.live q (by omega) h
  · rw [af.get_cons] at ho
    split at ho
    · next e' =>
      subst e'; cases ho
      obtain ⟨h1,h2,b,C,t,h3,h4,h5⟩:=hN.at_ _ _ hg
      refine ⟨h1,h2,b,C,t,h3,h4,by rw [List.length_set]; exact h5.1,fun j x d hx hd=>?_⟩
      rw [List.getElem?_set] at hd
      split at hd
      · next e2 =>
        subst e2
        split at hd
        · cases hd
          have:x = .slice none 0 0:=(h5.2 _ _ _ hx hi).nil_inv
          rw [this]
          exact .row o ty.k none 0 0 (.inl rfl) (by simp [aq.next]) (Nat.le_refl _) (by simp [maxLen]) (.inl ⟨rfl,rfl,rfl,by simp [aq.next]⟩)
        · cases hd
      · exact h5.2 _ _ _ hx hd
    · rw [af.get_cons] at ho
      split at ho
      · next e'=>subst e'; cases ho; exact ⟨.inl rfl,by simp [aq.next], .inl ⟨by simp [aq.next],rfl⟩⟩
      · exact hN.at_ q ob ho
end
end Go.Ax
