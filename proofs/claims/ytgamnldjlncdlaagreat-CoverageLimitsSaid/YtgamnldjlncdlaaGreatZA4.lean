import Derived.Test.YtgamnldjlncdlaaGreatZA3
import Derived.Lib.Bytealg
set_option linter.all false
/- States in a canonical form; programs as functions with an option. -/
namespace Go.Ax
open Go.RowKit
def pk:List Nat→Nat→Nat
  | [],_=>0
  | q :: r,o=>bif Nat.beq q o then 0 else pk r o+1
mutual
def V.ren (os:List Nat):V→V
  | .c d=>.c d
  | .agg vs=>.agg (V.rens os vs)
  | .tup vs=>.tup (V.rens os vs)
  | .ptr o k i j=>.ptr (pk os o) k i j
  | .row o k off n=>.row (pk os o) k off n
  | .dptr k cs j=>.dptr k cs j
  | .fn f caps=>.fn f (V.rens os caps)
def V.rens (os:List Nat):List V→List V
  | []=>[]
  | v :: r=>V.ren os v :: V.rens os r
end
def Ob.ren (os:List Nat):Ob→Ob
  | .box cs=>.box (V.rens os cs)
  | .row t k n el=>.row t k n el
  | .raw x=>.raw x
def aoy (l:List Nat) (x:Nat):List Nat:=bif jq x l then l else l++[x]
def Th (l xs:List Nat):List Nat:=xs.foldl aoy l
def ahs (H:am) (o:Nat):List Nat:=match am.get H o with | some (.box cs)=>V.refss cs | _=>[]
def NT (H:am) (os:List Nat):List Nat:=Th os (os.flatMap (ahs H))
def amn (tm:List (Nat × bz)):List Nat:=tm.flatMap fun x=>V.refs x.2.v
def Dz (tm:List (Nat × bz)) (H:am):List Nat:=NT H (NT H (NT H (Th [] (amn tm))))
def Se (os:List Nat) (tm:List (Nat × bz)):List (Nat × bz):=tm.map fun x=>(x.1,⟨[],x.2.v.ren os⟩)
def i6 (H:am):List Nat→Nat→List Nat→am
  | _,_,[]=>[]
  | os,i,o :: r=>match am.get H o with | some b=>(i,some (b.ren os)) :: i6 H os (i+1) r | none=>i6 H os (i+1) r
def canonN (ts:List Nat) (σ:St):St :=
  { tm:=Se (Dz (iQ ts σ.tm) σ.hp) (iQ ts σ.tm),hp:=i6 σ.hp (Dz (iQ ts σ.tm) σ.hp) 0 (Dz (iQ ts σ.tm) σ.hp),nx:=(Dz (iQ ts σ.tm) σ.hp).length }
def hY:List Nat→Bool
  | []=>true
  | o :: r=>!(jq o r)&&hY r
def nY (ts:List Nat) (σ:St):Bool :=
  hY (Dz (iQ ts σ.tm) σ.hp)&&(iQ ts σ.tm).all (fun x=>Kk (Dz (iQ ts σ.tm) σ.hp) x.2) &&
  (Dz (iQ ts σ.tm) σ.hp).all (fun o=>match am.get σ.hp o with | some b=>FX (Dz (iQ ts σ.tm) σ.hp) b | none=>true)
section
variable {P:Program} {N:Nat} {B:j5} {σ σ':St} {E:br} {a:Act} {w:World}
theorem GI:∀ {os:List Nat} {o:Nat},o∈os→os[pk os o]? = some o
  | [],o,h=>by simp at h
  | q :: r,o,h=>by
    unfold pk
    cases hb:Nat.beq q o with
    | true =>
      have:=Nat.eq_of_beq_eq_true hb
      subst this; rfl
    | false =>
      have hne:q≠o:=fun e=>by subst e; simp at hb
      rcases List.mem_cons.1 h with h | h
      · exact (hne h.symm).elim
      · simpa using GI h
theorem DJ:∀ {os:List Nat},hY os = true→∀ i j o:Nat,os[i]? = some o→os[j]? = some o→i = j
  | [],_,i,j,o,h,_=>by simp at h
  | q :: r,hn,i,j,o,hi,hj=>by
    unfold hY at hn
    simp only [Bool.and_eq_true,Bool.not_eq_true'] at hn
    have hq:∀ o,o∈r→q≠o:=by
      intro o ho e
      subst e
      have:jq q r = true:=List.any_eq_true.2 ⟨q,ho,by simp⟩
      rw [this] at hn
      exact absurd hn.1 (by simp)
    match i,j with
    | 0,0=>rfl
    | 0,j+1 =>
      simp at hi hj
      subst hi
      exact (hq _ (List.mem_of_getElem? hj) rfl).elim
    | i+1,0 =>
      simp at hi hj
      subst hj
      exact (hq _ (List.mem_of_getElem? hi) rfl).elim
    | i+1,j+1 =>
      simp at hi hj
      have:=DJ hn.2 i j o hi hj
      omega
def br.ren (E:br) (os:List Nat):br where
  conc q:=match os[q]? with | some o=>E.conc o | none=>none
  cap q:=match os[q]? with | some o=>E.cap o | none=>0
  len q:=match os[q]? with | some o=>E.len o | none=>0
  live q:=∃ o,os[q]? = some o∧E.live o
  ok:=E.ok
theorem js (os:List Nat):∀ vs:List V,(V.rens os vs).length = vs.length
  | []=>rfl
  | _ :: r=>by simp [V.rens,js os r]
theorem yP (os:List Nat):∀ (vs:List V) (i:Nat),(V.rens os vs)[i]? = (vs[i]?).map (V.ren os)
  | [],i=>by simp [V.rens]
  | v :: r,0=>by simp [V.rens]
  | v :: r,i+1=>by simp [V.rens,yP os r i]
theorem aK.ren {os:List Nat} {v:Value} {d:V} (h:aK E w v d):(∀ o∈V.refs d,o∈os)→aK (E.ren os) w v (d.ren os):=by
  induction h with
  | c v d h=>exact fun _=>.c v d h
  | agg vs ds hl h ih =>
    intro hr
    rw [V.ren]
    refine .agg vs _ (by rw [js,hl]) fun i v d hv hd=>?_
    rw [yP] at hd
    cases hx:ds[i]? with
    | none=>rw [hx] at hd; cases hd
    | some x=>rw [hx] at hd; cases hd; exact ih i v x hv hx fun o ho=>hr o (dx hx ho)
  | tup vs ds hl h ih =>
    intro hr
    rw [V.ren]
    refine .tup vs _ (by rw [js,hl]) fun i v d hv hd=>?_
    rw [yP] at hd
    cases hx:ds[i]? with
    | none=>rw [hx] at hd; cases hd
    | some x=>rw [hx] at hd; cases hd; exact ih i v x hv hx fun o ho=>hr o (dx hx ho)
  | ptr o k i j b h1 h2 h3 =>
    intro hr
    have ho:=GI (hr o (by simp [V.refs]))
    rw [V.ren]
    exact .ptr _ k i j b ⟨o,ho,h1⟩ (by simp only [br.ren,ho]; exact h2) (by simp only [br.ren,ho]; exact h3)
  | row o k off n a c hn hc hm hl ha h0 =>
    intro hr
    have ho:=GI (hr o (by simp [V.refs]))
    rw [V.ren]
    exact .row _ k off n a c ⟨o,ho,hn⟩ hc hm (by simp only [br.ren,ho]; exact hl) (by simp only [br.ren,ho]; exact ha) (by simp only [br.ren,ho]; exact h0)
  | dptr k cs j ad u h1 h2 h3 h4=>exact fun _=>.dptr k cs j ad u h1 h2 h3 h4
  | fn f vs ds hl h ih =>
    intro hr
    rw [V.ren]
    refine .fn f vs _ (by rw [js,hl]) fun i v d hv hd=>?_
    rw [yP] at hd
    cases hx:ds[i]? with
    | none=>rw [hx] at hd; cases hd
    | some x=>rw [hx] at hd; cases hd; exact ih i v x hv hx fun o ho=>hr o (dx hx ho)
theorem ly.ren {os:List Nat} {q o:Nat} {b:Ob} (ho:os[q]? = some o) (h:ly E w o b) (hr:FX os b = true):ly (E.ren os) w q (b.ren os):=by
  cases b with
  | box cs =>
    obtain ⟨e1,b,C,t,e2,e3,e4,e5⟩:=h
    refine ⟨by simp only [br.ren,ho]; exact e1,b,C,t,by simp only [br.ren,ho]; exact e2,e3, ?_,fun i v d hv hd=>?_⟩
    · rw [js]; exact e4
    · rw [yP] at hd
      cases hx:cs[i]? with
      | none=>rw [hx] at hd; cases hd
      | some x =>
        rw [hx] at hd; cases hd
        exact (e5 i v x hv hx).ren fun p hp=>l8 (List.all_eq_true.1 hr p (dx hx hp))
  | raw x =>
    obtain ⟨h1,b,h2,h3⟩:=h
    exact ⟨by simp only [br.ren,ho]; exact h1,b,by simp only [br.ren,ho]; exact h2,h3⟩
  | row t k n el =>
    obtain ⟨h1,h2⟩:=h
    refine ⟨by simp only [br.ren,ho]; exact h1, ?_⟩
    rcases h2 with ⟨h2,h3⟩ | ⟨b,C,g1,g2,g3,g4,g5,g6,g7,g8⟩
    · exact .inl ⟨by simp only [br.ren,ho]; exact h2,h3⟩
    · refine .inr ⟨b,C,by simp only [br.ren,ho]; exact g1,g2,by simp only [br.ren,ho]; exact g3,by simp only [br.ren,ho]; exact g4,by simp only [br.ren,ho]; exact g5,g6,g7,g8⟩
theorem MK (os:List Nat):∀ (tm:List (Nat × bz)) (t:Nat),bv (Se os tm) t = (bv tm t).map fun s=>⟨[],s.v.ren os⟩
  | [],t=>by simp [Se,bv]
  | (q,s) :: r,t=>by
    have ih:=MK os r t
    unfold Se at ih ⊢
    rw [List.map_cons,dw,dw]
    split
    · rfl
    · exact ih
theorem yp (H:am) (os:List Nat):∀ (l:List Nat) (i q:Nat) (b:Ob),am.get (i6 H os i l) q = some b→∃ o b',l[q - i]? = some o∧i≤q∧am.get H o = some b'∧b = b'.ren os
  | [],i,q,b,h=>by simp [i6,am.get] at h
  | o :: r,i,q,b,h=>by
    unfold i6 at h
    split at h
    · next b' hb' =>
      rw [am.get_cons] at h
      split at h
      · next e=>subst e; cases h; exact ⟨o,b',by simp,Nat.le_refl _,hb',rfl⟩
      · obtain ⟨o',b2,h1,h2,h3,h4⟩:=yp H os r (i+1) q b h
        refine ⟨o',b2, ?_,by omega,h3,h4⟩
        have:q - i = (q - (i+1))+1:=by omega
        rw [this]; simpa using h1
    · obtain ⟨o',b2,h1,h2,h3,h4⟩:=yp H os r (i+1) q b h
      refine ⟨o',b2, ?_,by omega,h3,h4⟩
      have:q - i = (q - (i+1))+1:=by omega
      rw [this]; simpa using h1
theorem dv.canonN (ts:List Nat) (h:nY ts σ = true):dv σ (canonN ts σ):=by
  unfold nY at h
  simp only [Bool.and_eq_true] at h
  obtain ⟨⟨h1,h2⟩,h3⟩:=h
  unfold Go.Ax.canonN
  generalize Dz (iQ ts σ.tm) σ.hp = os at h1 h2 h3 ⊢
  refine ⟨fun N B E a w hs=>⟨E.ren os,hs.size,hs.small,hs.defers,fun q hq hl=>?_,⟨fun q ob ho=>?_,fun q q' b hq hq' hb hb'=>?_,fun q b hq hb=>?_,fun q b hq hb=>?_,hs.heap.oklt⟩,fun t s hg=>?_,hs.base,fun q b hq hb=>?_,hs.okold⟩⟩
  · obtain ⟨o,ho,_⟩:=hl
    have hlt:=(List.getElem?_eq_some_iff.1 ho).1
    have hq':os.length≤q:=hq
    omega
  · obtain ⟨o,b',g1,g2,g3,rfl⟩:=yp σ.hp os os 0 q ob ho
    have g1':os[q]? = some o:=by simpa using g1
    obtain ⟨l1,l2⟩:=hs.heap.at_ o b' g3
    have hok:=List.all_eq_true.1 h3 o (List.mem_of_getElem? g1')
    rw [g3] at hok
    exact ⟨⟨o,g1',l1⟩,l2.ren g1' hok⟩
  · obtain ⟨o,ho,l⟩:=hq
    obtain ⟨o',ho',l'⟩:=hq'
    simp only [br.ren,ho] at hb
    simp only [br.ren,ho'] at hb'
    have:=hs.heap.inj o o' b l l' hb hb'
    subst this
    exact DJ h1 q q' o ho ho'
  · obtain ⟨o,ho,l⟩:=hq
    simp only [br.ren,ho] at hb
    exact hs.heap.sep o b l hb
  · obtain ⟨o,ho,l⟩:=hq
    simp only [br.ren,ho] at hb
    exact hs.heap.lt o b l hb
  · rw [MK] at hg
    cases hk:bv (iQ ts σ.tm) t with
    | none=>rw [hk] at hg; cases hg
    | some s0 =>
      rw [hk] at hg
      cases hg
      obtain ⟨g1,g2⟩:=zu ts σ.tm t s0 hk
      have hok:=List.all_eq_true.1 h2 _ g2
      unfold Kk at hok
      simp only [Bool.and_eq_true,List.isEmpty_iff] at hok
      have hh:=hs.slots t s0 g1
      refine ⟨fun _=>(hh.1 (by rw [hok.1]; rfl)).ren fun q hq=>l8 (List.all_eq_true.1 hok.2 q hq),fun _ h=>?_⟩
      simp [holds] at h
  · obtain ⟨o,ho,l⟩:=hq
    simp only [br.ren,ho] at hb
    exact hs.own o b l hb
end
def cN (ts:List Nat) (K:Exit→St→Prop) (e:Exit) (σ:St):Prop:=bif nY ts σ then wK K e (canonN ts σ) else False
def aA:Code→List Code
  | .seq x y=>aA x++aA y
  | .skip=>[]
  | c=>[c]
def ofItems:List Code→Code
  | []=>.skip
  | c :: r=>.seq c (ofItems r)
def aQ (l:List Code) (n:Nat):Code:=l.getD n .skip
def ar (P:Program) (N:Nat):List Code→(Exit→St→Prop)→St→Prop
  | [],K,σ=>wK K .normal σ
  | c :: r,K,σ=>aC P N c (aH (ar P N r K) K) σ
section
variable {P:Program} {C:FuncId→Option CC} {N:Nat} {c x y:Code} {K K':Exit→St→Prop} {σ σ':St}
theorem aaf (h:∀ e σ,K e σ→K' e σ) {e:Exit} (hk:wK K e σ):wK K' e σ:=⟨hk.choose,hk.choose_spec.1,h _ _ hk.choose_spec.2⟩
theorem ZZ {e:Exit} (h:K e σ):wK K e σ:=⟨σ, .refl σ,h⟩
theorem ar.ent:∀ {l:List Code} {K:Exit→St→Prop},dv σ σ'→ar P N l K σ'→ar P N l K σ
  | [],_,he,⟨σ2,h1,h2⟩=>⟨σ2,he.trans h1,h2⟩
  | _ :: _,_,he,h=>aC.ent he h
theorem Ea {J J':St→Prop} (hJ:∀ σ,J σ→J' σ) (hk:∀ e σ,K e σ→K' e σ):∀ e σ,aH J K e σ→aH J' K' e σ:=by
  intro e σ h
  cases e with
  | normal=>exact hJ σ h
  | exit id=>exact hk _ _ h
  | goto l=>exact hk _ _ h
  | ret=>exact hk _ _ h
  | panic ch=>exact hk _ _ h
  | outgrown=>exact hk _ _ h
theorem ar.mono:∀ {l:List Code} {K K':Exit→St→Prop} {σ:St},(∀ e σ,K e σ→K' e σ)→ar P N l K σ→ar P N l K' σ
  | [],_,_,_,hk,h=>aaf hk h
  | _ :: _,_,_,_,hk,h=>aC.mono h (Ea (fun _ h=>ar.mono hk h) hk)
theorem ar.app:∀ {l l':List Code} {K:Exit→St→Prop} {σ:St},ar P N l (aH (ar P N l' K) K) σ→ar P N (l++l') K σ
  | [],_,_,_,⟨_,h1,h2⟩=>ar.ent h1 h2
  | _ :: _,_,_,_,h=>aC.mono h (Ea (fun _ h=>ar.app h) fun e σ h=>by
      cases e with
      | normal=>exact h
      | exit id=>exact h
      | goto l=>exact h
      | ret=>exact h
      | panic ch=>exact h
      | outgrown=>exact h) |>.mono (fun e σ h=>by
      cases e with
      | normal=>exact h
      | exit id=>exact h
      | goto l=>exact h
      | ret=>exact h
      | panic ch=>exact h
      | outgrown=>exact h)
theorem ar.app_inv:∀ {l l':List Code} {K:Exit→St→Prop} {σ:St},ar P N (l++l') K σ→ar P N l (aH (ar P N l' K) K) σ
  | [],_,_,σ,h=>⟨σ, .refl σ,h⟩
  | _ :: _,_,_,_,h=>aC.mono h fun e σ h=>by
      cases e with
      | normal=>exact ar.app_inv h
      | exit id=>exact h
      | goto l=>exact h
      | ret=>exact h
      | panic ch=>exact h
      | outgrown=>exact h
theorem aC.of_weakN (h:aC P N c (aH (fun σ=>wK K .normal σ) K) σ):aC P N c K σ :=
  .weak (h.mono fun e σ h=>by
    cases e with
    | normal=>exact h
    | exit id=>exact ⟨σ, .refl σ,h⟩
    | goto l=>exact ⟨σ, .refl σ,h⟩
    | ret=>exact ⟨σ, .refl σ,h⟩
    | panic ch=>exact ⟨σ, .refl σ,h⟩
    | outgrown=>exact ⟨σ, .refl σ,h⟩)
theorem aC.ofItems:∀ (c:Code) {K:Exit→St→Prop} {σ:St},ar P N (aA c) K σ→aC P N c K σ:=by
  intro c
  induction c with
  | skip=>exact fun h=>.ent h.choose_spec.1 (.skip h.choose_spec.2)
  | seq x y ihx ihy =>
    intro K σ h
    exact .seq ((ihx (ar.app_inv h)).mono (Ea (fun _ h=>ihy h) fun _ _ h=>h))
  | label l=>exact fun h=>.of_weakN h
  | region id ops dr=>exact fun h=>.of_weakN h
  | cond c x y _ _=>exact fun h=>.of_weakN h
  | block id x _=>exact fun h=>.of_weakN h
  | exit id=>exact fun h=>.of_weakN h
  | ret=>exact fun h=>.of_weakN h
  | loop x _=>exact fun h=>.of_weakN h
  | rangeFunc f params assign body=>exact fun h=>.of_weakN h
  | scope body=>exact fun h=>.of_weakN h
  | goto l=>exact fun h=>.of_weakN h
  | refuse why=>exact fun h=>.of_weakN h
theorem Ht {ts:List Nat} {e:Exit} (h:cN ts K e σ):wK K e σ:=by
  unfold cN at h
  cases hc:nY ts σ with
  | false=>rw [hc] at h; exact h.elim
  | true =>
    rw [hc,cond_true] at h
    obtain ⟨σ2,h1,h2⟩:=h
    exact ⟨σ2,(dv.canonN ts hc).trans h1,h2⟩
theorem ar.piece (hm:P.follows .mixedOrders = true) (hC:∀ f con,C f = some con→bR P f con) (ts:List Nat):∀ (l l':List Code) {K:Exit→St→Prop} {σ:St},
    ev P C N (Go.Ax.ofItems l) (cN ts (aH (ar P N l' K) K)) σ→ar P N (l++l') K σ
  | [],l',K,σ,h=>by
    obtain ⟨σ',h1,h2⟩:=Ht h
    exact ar.ent h1 h2
  | c :: l,l',K,σ,h=>by
    have h':ev P C N c (aH (ev P C N (Go.Ax.ofItems l) (cN ts (aH (ar P N l' K) K))) (cN ts (aH (ar P N l' K) K))) σ:=h
    refine .weak (.of_ev hm hC (Cn c ?_ h'))
    intro e σ' hk
    cases e with
    | normal=>exact ⟨σ', .refl σ',ar.piece hm hC ts l l' hk⟩
    | exit id=>exact Ht hk
    | goto l=>exact Ht hk
    | ret=>exact Ht hk
    | panic ch=>exact Ht hk
    | outgrown=>exact Ht hk
theorem ar.cons_block {id:Nat} {r:List Code} (h:ar P N (aA x) (bj id (aH (ar P N r K) K)) σ):ar P N (.block id x :: r) K σ:=aC.block (.ofItems x h)
def W {α:Type} (o:Option α) (Q:α→Prop):Prop:=match o with | some a=>Q a | none=>False
def gd {α:Type} (p:Prop) [Decidable p] (o:Option α):Option α:=if p then o else none
theorem aE {α:Type} {p:Prop} [Decidable p] {o:Option α} (h:p):gd p o = o:=by unfold gd; exact if_pos h
theorem VG {α:Type} {p:Prop} [Decidable p] {o:Option α} (h:¬ p):gd p o = none:=by unfold gd; exact if_neg h
theorem Rp {α:Type} {p:Prop} [Decidable p] {o:Option α} {a:α}:gd p o = some a↔p∧o = some a:=by
  by_cases h:p
  · rw [aE h]; simp [h]
  · rw [VG h]; simp [h]
theorem amg {α:Type} {b:Bool} {o o':Option α} {Q:α→Prop} {X Y:Prop} (h:W (bif b then o else o') Q) (h1:b = true→W o Q→X) (h2:b = false→W o' Q→Y):bif b then X else Y:=by
  cases b with
  | true=>exact h1 rfl h
  | false=>exact h2 rfl h
theorem SF {α:Type} {p:Prop} [Decidable p] {o:Option α} {Q:α→Prop} {X:Prop} (h:W (gd p o) Q) (h1:p→W o Q→X):p∧X:=by
  by_cases hp:p
  · rw [aE hp] at h; exact ⟨hp,h1 hp h⟩
  · rw [VG hp] at h; exact h.elim
theorem VN {α β:Type} {o:Option β} {f:β→Option α} {Q:α→Prop} {X:Prop} (d:β) (h:W (o.bind f) Q) (h1:o.isSome = true→W (f (o.getD d)) Q→X):o.isSome = true∧X:=by
  cases o with
  | none=>exact h.elim
  | some b=>exact ⟨rfl,h1 rfl h⟩
theorem adt {α β:Type} {o:Option β} {f:β→Option α} {Q:α→Prop} (h:W (o.bind f) Q):W o fun b=>W (f b) Q:=by
  cases o with
  | none=>exact h
  | some b=>exact h
theorem aiW {α:Type} {o:Option α} {Q Q':α→Prop} (h:W o Q) (hq:∀ a,Q a→Q' a):W o Q':=by
  cases o with
  | none=>exact h
  | some a=>exact hq a h
theorem bn {α:Type} {o:Option α} {Q:α→Prop}:W o Q↔∃ a,o = some a∧Q a:=by
  cases o with
  | none=>exact ⟨fun h=>h.elim,fun ⟨_,h,_⟩=>by cases h⟩
  | some a=>exact ⟨fun h=>⟨a,rfl,h⟩,fun ⟨_,h,hq⟩=>by cases h; exact hq⟩
def kB {σ ρ:Type} (f:σ→Option (σ ⊕ ρ)):Nat→σ→Option ρ
  | 0,_=>none
  | n+1,s=>match f s with
    | some (.inl s')=>kB f n s'
    | some (.inr r)=>some r
    | none=>none
theorem Ds {σ ρ:Type} {f:σ→Option (σ ⊕ ρ)}:∀ {n m:Nat} {s:σ} {r:ρ},n≤m→kB f n s = some r→kB f m s = some r
  | 0,_,_,_,_,h=>by cases h
  | n+1,0,_,_,hm,_=>by omega
  | n+1,m+1,s,r,hm,h=>by
    unfold kB at h ⊢
    split
    · next s' hs=>rw [hs] at h; exact Ds (by omega) h
    · next r' hs=>rw [hs] at h; exact h
    · next hs=>rw [hs] at h; cases h
open Classical in
noncomputable def fixL {σ ρ:Type} (f:σ→Option (σ ⊕ ρ)) (s:σ):Option ρ:=match kB f 1000000 s with | some r=>some r | none=>if h:∃ n,(kB f n s).isSome = true then kB f h.choose s else none
theorem Hb {σ ρ:Type} {f:σ→Option (σ ⊕ ρ)} {n:Nat} {s:σ} {r:ρ} (h:kB f n s = some r):fixL f s = some r:=by
  have he:∃ n,(kB f n s).isSome = true:=⟨n,by rw [h]; rfl⟩
  have key:∀ m r',kB f m s = some r'→r' = r:=fun m r' hr'=>by
    have a:=Ds (Nat.le_max_left n m) h
    have b:=Ds (Nat.le_max_right n m) hr'
    rw [a] at b
    exact (Option.some.inj b).symm
  unfold fixL
  split
  · next r' hr'=>rw [key _ r' hr']
  · rw [dif_pos he]
    have h2:=he.choose_spec
    obtain ⟨r',hr'⟩:=Option.isSome_iff_exists.1 h2
    rw [hr',key _ r' hr']
theorem zY {σ ρ:Type} {f:σ→Option (σ ⊕ ρ)} {s:σ} {r:ρ}:fixL f s = some r↔∃ n,kB f n s = some r:=by
  constructor
  · intro h
    unfold fixL at h
    split at h
    · next r' hr'=>cases h; exact ⟨_,hr'⟩
    · split at h
      · next he=>exact ⟨_,h⟩
      · cases h
  · rintro ⟨n,h⟩
    exact Hb h
theorem bS {σ ρ:Type} (f:σ→Option (σ ⊕ ρ)) (s:σ):fixL f s = (f s).bind fun x=>match x with | .inl s'=>fixL f s' | .inr r=>some r:=by
  cases hf:f s with
  | none =>
    cases h:fixL f s with
    | none=>rfl
    | some r =>
      obtain ⟨n,hn⟩:=zY.1 h
      cases n with
      | zero=>cases hn
      | succ n=>unfold kB at hn; rw [hf] at hn; cases hn
  | some x =>
    cases x with
    | inl s' =>
      show fixL f s = fixL f s'
      cases h':fixL f s' with
      | some r =>
        obtain ⟨n,hn⟩:=zY.1 h'
        exact Hb (n:=n+1) (by unfold kB; rw [hf]; exact hn)
      | none =>
        cases h:fixL f s with
        | none=>rfl
        | some r =>
          obtain ⟨n,hn⟩:=zY.1 h
          cases n with
          | zero=>cases hn
          | succ n =>
            unfold kB at hn
            rw [hf] at hn
            have:=Hb hn
            rw [h'] at this
            cases this
    | inr r=>exact Hb (n:=1) (by unfold kB; rw [hf])
def Pp {X:Type} (P:Program) (N:Nat) (l:List Code) (σ:St) (o:Option X) (E:X→(Exit→St→Prop)→Prop):Prop :=
  ∀ K:Exit→St→Prop,W o (fun x=>E x K)→ar P N l K σ
def cl {S R:Type} (emb:S→St) (E:R→(Exit→St→Prop)→Prop):S ⊕ R→(Exit→St→Prop)→Prop
  | .inl s,K=>K .normal (emb s)
  | .inr r,K=>E r K
theorem aC.loopF {S R:Type} {f:S→Option (S ⊕ R)} {emb:S→St} {E:R→(Exit→St→Prop)→Prop} (hb:∀ s,Pp P N (aA x) (emb s) (f s) (cl emb E))
    (hE:∀ r J K,E r K→E r (aH J K)) {s:S} (h:W (fixL f s) fun r=>E r K):aC P N (.loop x) K (emb s):=by
  obtain ⟨r,hr,hq⟩:=bn.1 h
  obtain ⟨n,hn⟩:=zY.1 hr
  refine aC.loop (fun m σ=>∃ s,σ = emb s∧kB f m s = some r) n (emb s) (.refl _) ⟨s,rfl,hn⟩ ?_
  rintro m σ ⟨s,rfl,hm⟩
  refine .ofItems x (hb s _ ?_)
  cases m with
  | zero=>cases hm
  | succ m =>
    unfold kB at hm
    split at hm
    · next s' hs=>rw [hs]; exact ⟨m,emb s',Nat.lt_succ_self m, .refl _,s',rfl,hm⟩
    · next r' hs=>rw [hs]; cases hm; exact hE r _ _ hq
    · cases hm
end
end Go.Ax
namespace Go.Ax
open Go.RowKit
def aV {T:Type} (enc:T→List D) (z:T) (l:List T) (i:Nat):List D:=enc (l.getD i z)
def aJ {T:Type} (enc:T→List D) (dec:List D→T) (k0 k n:Nat) (el:Nat→List D):Prop:=(0 < n→k = k0)∧∀ i,i < n→be (el i) (enc (dec (el i)))
def ef {T:Type} (enc:T→List D) (dec:List D→T):Prop:=∀ x ds,be ds (enc x)→dec ds = x
theorem ef.eq {T:Type} {enc:T→List D} {dec:List D→T} (h:ef enc dec) (x:T):dec (enc x) = x:=h x _ (.refl _)
def D.isLit:D→Bool
  | .lit _=>true
  | _=>false
theorem eN.lit_inv {d d':D} (h:eN d d') (hl:d'.isLit = true):d = d':=by
  cases h with
  | refl=>rfl
  | unk=>cases hl
  | any=>cases hl
  | nilsl=>cases hl
  | sl=>cases hl
theorem be.flat {ds ds':List D} (h:be ds ds') (hf:ds'.all D.isLit = true):ds = ds' :=
  List.ext_getElem h.1 fun i h1 h2=>(h.2 i _ _ (List.getElem?_eq_getElem h1) (List.getElem?_eq_getElem h2)).lit_inv (List.all_eq_true.1 hf _ (List.getElem_mem h2))
theorem ef.flat {T:Type} {enc:T→List D} {dec:List D→T} (hd:∀ x,dec (enc x) = x) (hf:∀ x,(enc x).all D.isLit = true):ef enc dec:=fun x ds h=>by rw [h.flat (hf x)]; exact hd x
theorem aJ.eq {T:Type} {enc:T→List D} {dec:List D→T} {k0 k n:Nat} {el:Nat→List D} (h:aJ enc dec k0 k n el) (hf:∀ x,(enc x).all D.isLit = true):∀ i,i < n→el i = enc (dec (el i)):=fun i hi=>(h.2 i hi).flat (hf _)
def m4 {T:Type} (z:T) (l:List T) (off n:Nat):List T:=(List.range n).map fun i=>l.getD (off+i) z
structure ac {T:Type} (enc:T→List D) (z:T) (n:Nat) (el:Nat→List D) (l:List T):Prop where
  len:n = l.length
  els:∀ i,i < n→be (el i) (enc (l.getD i z))
section
variable {T:Type} {enc:T→List D} {dec:List D→T} {z:T} {n m k k0 off:Nat} {el el':Nat→List D} {l l':List T}
theorem dO:(lst dec n el).length = n:=by simp [lst]
theorem qW {i:Nat} (h:i < n):(lst dec n el).getD i z = dec (el i):=by
  unfold lst
  rw [List.getD_eq_getElem?_getD,List.getElem?_map,List.getElem?_range h]
  rfl
theorem ac.of_ok (h:aJ enc dec k0 k n el):ac enc z n el (lst dec n el) :=
  ⟨dO.symm,fun i hi=>by rw [qW hi]; exact h.2 i hi⟩
theorem ac.lst (hd:ef enc dec) (h:ac enc z n el l):Go.Ax.lst dec n el = l:=by
  refine List.ext_getElem (by rw [dO,h.len]) fun i h1 h2=>?_
  have hi:i < n:=by rw [dO] at h1; exact h1
  have:=qW (dec:=dec) (el:=el) (z:=z) hi
  rw [List.getD_eq_getElem?_getD,List.getElem?_eq_getElem h1] at this
  have e:(Go.Ax.lst dec n el)[i] = dec (el i):=this
  rw [e,hd _ _ (h.els i hi),List.getD_eq_getElem?_getD,List.getElem?_eq_getElem h2]
  rfl
theorem ac.ok (hd:ef enc dec) (h:ac enc z n el l):aJ enc dec k k n el:=⟨fun _=>rfl,fun i hi=>by rw [hd _ _ (h.els i hi)]; exact h.els i hi⟩
theorem ac.okN (hd:ef enc dec) (h:ac enc z 0 el l):aJ enc dec k0 k 0 el:=⟨fun h=>by omega,fun i hi=>by omega⟩
theorem ac.ls (enc:T→List D) (z:T) (l:List T):ac enc z l.length (aV enc z l) l:=⟨rfl,fun _ _=>.refl _⟩
theorem ac.ls0 (enc:T→List D) (z:T) (l:List T):ac enc z l.length (fun i=>aV enc z l (0+i)) l:=⟨rfl,fun i _=>.of_eq (by simp [aV])⟩
theorem ac.zero (h:ac enc z n el l):ac enc z n (fun i=>el (0+i)) l:=⟨h.len,fun i hi=>by rw [Nat.zero_add]; exact h.els i hi⟩
theorem ac.nil (enc:T→List D) (z:T) (el:Nat→List D):ac enc z 0 el []:=⟨rfl,fun i hi=>by omega⟩
theorem ac.app (h:ac enc z n el l) (h':ac enc z m el' l'):ac enc z (n+m) (fun i=>bif Nat.blt i n then el i else el' (i - n)) (l++l'):=by
  refine ⟨by rw [List.length_append,h.len,h'.len],fun i hi=>?_⟩
  by_cases hlt:i < n
  · have:Nat.blt i n = true:=by simpa using hlt
    rw [this,cond_true,show (l++l').getD i z = l.getD i z by rw [List.getD_eq_getElem?_getD,List.getD_eq_getElem?_getD,List.getElem?_append_left (by rw [← h.len]; exact hlt)]]
    exact h.els i hlt
  · have:Nat.blt i n = false:=by
      cases hb:Nat.blt i n with
      | false=>rfl
      | true=>rw [Nat.blt_eq] at hb; exact (hlt hb).elim
    rw [this,cond_false,show (l++l').getD i z = l'.getD (i - n) z by rw [List.getD_eq_getElem?_getD,List.getD_eq_getElem?_getD,List.getElem?_append_right (by rw [← h.len]; omega),h.len]]
    exact h'.els (i - n) (by omega)
theorem ac.set (h:ac enc z n el l) (j:Nat) (x:T) {cs:List D} (hc:cs = enc x):ac enc z n (fun q=>bif Nat.beq q j then cs else el q) (l.set j x):=by
  refine ⟨by rw [List.length_set]; exact h.len,fun i hi=>?_⟩
  by_cases hj:i = j
  · subst hj
    rw [show Nat.beq i i = true by simp,cond_true,hc,List.getD_eq_getElem?_getD,List.getElem?_set_self (by rw [← h.len]; exact hi)]
    exact .refl _
  · rw [sQ hj,cond_false,show (l.set j x).getD i z = l.getD i z by rw [List.getD_eq_getElem?_getD,List.getD_eq_getElem?_getD,List.getElem?_set_ne (fun e=>hj e.symm)]]
    exact h.els i hi
theorem ac.setw (h:ac enc z n el l) (j:Nat) (x:T) {cs:List D} (hc:be cs (enc x)):ac enc z n (fun q=>bif Nat.beq q j then cs else el q) (l.set j x):=by
  refine ⟨by rw [List.length_set]; exact h.len,fun i hi=>?_⟩
  by_cases hj:i = j
  · subst hj
    rw [show Nat.beq i i = true by simp,cond_true,List.getD_eq_getElem?_getD,List.getElem?_set_self (by rw [← h.len]; exact hi)]
    exact hc
  · rw [sQ hj,cond_false,show (l.set j x).getD i z = l.getD i z by rw [List.getD_eq_getElem?_getD,List.getD_eq_getElem?_getD,List.getElem?_set_ne (fun e=>hj e.symm)]]
    exact h.els i hi
theorem My {i:Nat} (hi:i < n):(m4 z l off n).getD i z = l.getD (off+i) z:=by
  unfold m4
  rw [List.getD_eq_getElem?_getD,List.getElem?_map,List.getElem?_range hi]
  rfl
theorem ac.sub (enc:T→List D) (z:T) (l:List T) (off n:Nat):ac enc z n (fun i=>aV enc z l (off+i)) (m4 z l off n) :=
  ⟨by simp [m4],fun i hi=>by rw [My hi]; exact .refl _⟩
theorem ac.rep (x:T) {cs:List D} (hc:cs = enc x) (n:Nat):ac enc z n (fun _=>cs) (List.replicate n x) :=
  ⟨by simp,fun i hi=>by rw [hc,List.getD_eq_getElem?_getD,List.getElem?_replicate,if_pos hi]; exact .refl _⟩
def KM (z:T) (l:List T) (off n:Nat):List T:=(List.range l.length).map fun q=>bif Nat.ble off q&&Nat.blt q (off+n) then z else l.getD q z
theorem ac.clear (h:ac enc z n el l) {cs:List D} (hc:cs = enc z) (off m:Nat):ac enc z n (fun q=>bif Nat.ble off q&&Nat.blt q (off+m) then cs else el q) (KM z l off m):=by
  refine ⟨by simp [KM,h.len],fun i hi=>?_⟩
  have hl:i < l.length:=by rw [← h.len]; exact hi
  have:(KM z l off m).getD i z = bif Nat.ble off i&&Nat.blt i (off+m) then z else l.getD i z:=by
    unfold KM
    rw [List.getD_eq_getElem?_getD,List.getElem?_map,List.getElem?_range hl]
    rfl
  rw [this]
  cases hb:(Nat.ble off i&&Nat.blt i (off+m)) with
  | true=>exact .of_eq hc
  | false=>exact h.els i hi
theorem bY (h:n = l.length) (h':m = l'.length):n+m = (l++l').length:=by rw [List.length_append,h,h']
theorem mW {j:Nat} {x:T} (h:n = l.length):n = (l.set j x).length:=by rw [List.length_set,h]
theorem Dr:n = (m4 z l off n).length:=by simp [m4]
theorem ac.lit (l:List T) (h:∀ i,i < l.length→be (el i) (enc (l.getD i z))):ac enc z l.length el l:=⟨rfl,h⟩
theorem ac.congr (h:ac enc z n el l) (hn:m = n) (he:∀ i,i < n→el' i = el i):ac enc z m el' l:=⟨hn.trans h.len,fun i hi=>by rw [he i (hn ▸ hi)]; exact h.els i (hn ▸ hi)⟩
theorem MA (h:off+n≤l.length):m4 z l off n = (l.drop off).take n:=by
  refine List.ext_getElem (by simp [m4]; omega) fun i h1 h2=>?_
  have hi:i < n:=by simpa [m4] using h1
  have:=My (z:=z) (l:=l) (off:=off) hi
  rw [List.getD_eq_getElem?_getD,List.getElem?_eq_getElem h1,List.getD_eq_getElem?_getD,List.getElem?_eq_getElem (show off+i < l.length by omega)] at this
  have e:(m4 z l off n)[i] = l[off+i]'(by omega):=this
  rw [e,List.getElem_take,List.getElem_drop]
end
section
variable {T:Type} {enc:T→List D} {z:T} {n k:Nat} {el:Nat→List D} {l:List T} {tm r:List (Nat × bz)} {H R:am} {t o:Nat}
theorem VLe.sl (h:ac enc z n el l):VLe (.c (.sl k n el)) (.c (.sl k l.length (aV enc z l))):=by
  rw [VLe]
  exact .row h.len (fun _=>rfl) h.els
theorem VLe.slk {k':Nat} (hk:0 < n→k = k') (h:ac enc z n el l):VLe (.c (.sl k n el)) (.c (.sl k' l.length (aV enc z l))):=by
  rw [VLe]
  exact .row h.len hk h.els
theorem VLe.nilsl (enc:T→List D) (z:T) (k:Nat):VLe (.c .nil) (.c (.sl k 0 (aV enc z []))):=by
  rw [VLe]; exact .nilsl _ _
theorem VLe.any {d:D} (h:d.isOne = true):VLe (.c d) (.c .any):=by rw [VLe]; exact .any _ h
theorem VLe.dptr {cs cs':List D} {j:Nat} (h:be cs cs'):VLe (.dptr k cs j) (.dptr k cs' j):=by rw [VLe]; exact ⟨rfl,rfl,h⟩
theorem VLe.rown {k off n n':Nat} (h:n = n'):VLe (.row o k off n) (.row o k off n'):=by subst h; exact VLe.rfl' _
theorem VLe.agg {xs ys:List V} (h:VLes xs ys):VLe (.agg xs) (.agg ys):=by rw [VLe]; exact h
theorem VLe.tup {xs ys:List V} (h:VLes xs ys):VLe (.tup xs) (.tup ys):=by rw [VLe]; exact h
theorem VLes.cons {x y:V} {xs ys:List V} (h:VLe x y) (hs:VLes xs ys):VLes (x :: xs) (y :: ys):=by rw [VLes]; exact ⟨h,hs⟩
theorem VLes.nil:VLes [] []:=by rw [VLes]; trivial
theorem VLe.of_eq {x y:V} (h:x = y):VLe x y:=h ▸ VLe.rfl' x
theorem bM.cons {v v':V} (h:bv tm t = some ⟨[],v⟩) (hv:VLe v v') (hr:bM tm r):bM tm ((t,⟨[],v'⟩) :: r):=by
  rw [bM,h]; exact ⟨⟨rfl,rfl,hv⟩,hr⟩
theorem bM.nil:bM tm []:=by rw [bM]; trivial
theorem cC.row {ty n':Nat} (h:am.get H o = some (.row ty k n el)) (hr:ac enc z n el l) (hs:cC H R) (hn:n' = l.length):cC H ((o,some (.row ty k n' (aV enc z l))) :: R):=by
  subst hn
  rw [cC,h]; exact ⟨⟨rfl,rfl,hr.len,hr.els⟩,hs⟩
theorem eN.ls {k':Nat} (hk:0 < n→k = k') (h:ac enc z n el l):eN (.sl k n el) (.sl k' l.length (aV enc z l)):=.row h.len hk h.els
theorem eN.nils (enc:T→List D) (z:T) (k:Nat):eN .nil (.sl k 0 (aV enc z [])):=.nilsl _ _
theorem eN.nil_or {d:D} {k n:Nat} {el:Nat→List D} (h:eN d (.sl k n el)):(d = .nil∧n = 0)∨∃ k' el',d = .sl k' n el'∧∀ i,i < n→be (el' i) (el i):=by
  cases h with
  | refl=>exact .inr ⟨_,_,rfl,fun _ _=>.refl _⟩
  | nilsl=>exact .inl ⟨rfl,rfl⟩
  | sl k0 k n el0 el hk hl hc=>exact .inr ⟨_,_,rfl,fun i hi=>⟨hl i hi,fun j d d'=>hc i j d d' hi⟩⟩
theorem cC.box {cs cs':List V} (h:am.get H o = some (.box cs)) (hv:VLes cs cs') (hs:cC H R):cC H ((o,some (.box cs')) :: R):=by
  rw [cC,h]; exact ⟨hv,hs⟩
theorem cC.same {b:Ob} (h:am.get H o = some b) (hs:cC H R):cC H ((o,some b) :: R):=by
  rw [cC,h]
  refine ⟨?_,hs⟩
  cases b with
  | box cs=>exact VLes.rfl' cs
  | raw x=>exact rfl
  | row t k n el=>exact ⟨rfl,rfl,rfl,fun _ _=>.refl _⟩
theorem cC.nil:cC H []:=by rw [cC]; trivial
theorem dv.of {σ σ':St} (h1:bM σ.tm σ'.tm) (h2:cC σ.hp σ'.hp) (h3:Nat.ble σ.nx σ'.nx = true):dv σ σ':=.le ⟨h1,h2,Nat.ble_eq.mp h3⟩
end
section
variable {P:Program} {N:Nat} {σ σ':St}
theorem eC.intro {rs:List ResultVar} {out:bK} {v:V} (hv:kY P σ rs = some v) (h:dN out σ.hp v):eC P rs (dN out) .ret σ:=by
  show (match kY P σ rs with | some v=>dN out σ.hp v | none=>False)
  rw [hv]; exact h
theorem nT {f:FuncId} {fn:Func} {c:Code} (hf:P.funcs[f]? = some fn) (hb:fn.body = some c) (hn:(fn.name == "runtime.NumGoroutine") = false) {con:bU} {rs:List ResultVar} (hr:fn.results.toList = rs) {nt:Nat} (ht:fn.ntmps = nt)
    (h:∀ vs p out,con vs = some (p,out)→(∀ q∈p,q)→∃ vs',VLes vs vs'∧(Nat.ble vs'.length nt&&Nat.ble nt 1000000) = true∧ar P nt (aA c) (eC P rs (dN out)) { tm:=gk vs' 0,hp:=[],nx:=0 }):bc P f con:=by
  subst hr ht
  refine Og hf hb hn fun vs p out h1 h2=>?_
  obtain ⟨vs',h3,h4,h5⟩:=h vs p out h1 h2
  rw [Bool.and_eq_true] at h4
  exact ⟨vs',h3,⟨Nat.ble_eq.mp h4.1,Nat.ble_eq.mp h4.2⟩, .ofItems c h5⟩
end
def N2 {T:Type} (enc:T→List D) (el:Nat→List D):Nat→List T→Prop
  | _,[]=>True
  | i,x :: r=>be (el i) (enc x)∧N2 enc el (i+1) r
theorem M7 {T:Type} {enc:T→List D} {z:T} {el:Nat→List D}:∀ {l:List T} {i:Nat},N2 enc el i l→∀ j,j < l.length→be (el (i+j)) (enc (l.getD j z))
  | [],_,_,j,h=>by simp at h
  | x :: r,i,ha,0,_=>ha.1
  | x :: r,i,ha,j+1,h=>by
    have:=M7 (z:=z) ha.2 j (by simpa using h)
    rw [show i+(j+1) = i+1+j by omega]
    simpa using this
theorem ac.lits {T:Type} {enc:T→List D} {z:T} {el:Nat→List D} {l:List T} (h:N2 enc el 0 l):ac enc z l.length el l :=
  ⟨rfl,fun i hi=>by have:=M7 (z:=z) h i hi; rwa [Nat.zero_add] at this⟩
theorem amM {α:Type} {p q:Prop} [Decidable p] [Decidable q] {o:Option α} {Q:α→Prop} {X:Prop} (h:W (gd (p∧q) o) Q) (h1:p∧q→W o Q→X):p∧q∧X:=by
  obtain ⟨⟨a,b⟩,c⟩:=SF h h1
  exact ⟨a,b,c⟩
theorem wB {α:Type} {b:Bool} {o o':Option α} {Q:α→Prop} {X Y:Prop} (f:W o Q→X) (g:W o' Q→Y) (h:W (bif b then o else o') Q):bif b then X else Y:=amg h (fun _=>f) fun _=>g
theorem w1 {α:Type} {p:Prop} [Decidable p] {o:Option α} {Q:α→Prop} {X:Prop} (f:W o Q→X) (h:W (gd p o) Q):p∧X:=SF h fun _=>f
theorem w2 {α:Type} {p q:Prop} [Decidable p] [Decidable q] {o:Option α} {Q:α→Prop} {X:Prop} (f:W o Q→X) (h:W (gd (p∧q) o) Q):p∧q∧X:=amM h fun _=>f
theorem wN {α β:Type} {o:Option β} {f:β→Option α} {Q:α→Prop} {X:Prop} (d:β) (g:W (f (o.getD d)) Q→X) (h:W (o.bind f) Q):o.isSome = true∧X:=VN d h fun _=>g
theorem wC {p X H:Prop} (a:p) (f:H→X) (h:H):p∧X:=⟨a,f h⟩
theorem am9 {α:Type} {p q r:Prop} [Decidable p] [Decidable q] [Decidable r] {o:Option α} {Q:α→Prop} {X:Prop} (h:W (gd (p∧q∧r) o) Q) (h1:p∧q∧r→W o Q→X):p∧q∧r∧X:=by
  obtain ⟨⟨a,b,c⟩,d⟩:=SF h h1
  exact ⟨a,b,c,d⟩
def AT (n b:Nat):Prop:=n*b≤140737488355328∧n≤140737488355328
instance (n b:Nat):Decidable (AT n b):=inferInstanceAs (Decidable (_∧_))
theorem ce {a:Prop} {l:List Prop} (h:∀ q∈a :: l,q):a∧∀ q∈l,q:=⟨h a (by simp),fun q hq=>h q (by simp [hq])⟩
section
variable {P:Program} {C:FuncId→Option CC} {N:Nat} {x y c:Code} {K:Exit→St→Prop} {σ:St}
structure zG (P:Program) (C:FuncId→Option CC) (N:Nat) (c:Code) (K:Exit→St→Prop) (σ:St):Prop where
  h:ev P C N c K σ
theorem zG.of {X:Prop} (h:ev P C N c K σ = X) (x:X):zG P C N c K σ:=⟨h.mpr x⟩
theorem ar.pieceD (hm:P.follows .mixedOrders = true) (hC:∀ f con,C f = some con→bR P f con) (ts:List Nat) (a m b:Nat) {l:List Code} (e:a+m = b)
    (h:zG P C N (ofItems ((l.drop a).take m)) (cN ts (aH (ar P N (l.drop b) K) K)) σ):ar P N (l.drop a) K σ:=by
  obtain ⟨h⟩:=h
  subst e
  have:=ar.piece hm hC ts ((l.drop a).take m) ((l.drop a).drop m) (K:=K) (σ:=σ) (by rw [List.drop_drop]; exact h)
  rwa [List.take_append_drop] at this
theorem ar.pieceE (hm:P.follows .mixedOrders = true) (hC:∀ f con,C f = some con→bR P f con) (ts:List Nat) (a m:Nat) {l:List Code} (e:l.drop (a+m) = [])
    (h:zG P C N (ofItems ((l.drop a).take m)) (cN ts K) σ):ar P N (l.drop a) K σ:=by
  obtain ⟨h⟩:=h
  have hl:(l.drop a).take m = l.drop a:=List.take_of_length_le (by
    have:=List.drop_eq_nil_iff.1 e
    rw [List.length_drop]; omega)
  rw [hl] at h
  have hq:=ar.piece (l':=[]) hm hC ts (l.drop a) (K:=K) (σ:=σ) (Cn _ (fun e σ hk=>?_) h)
  · rwa [List.append_nil] at hq
  · unfold cN at hk ⊢
    cases hc:nY ts σ with
    | false=>rw [hc] at hk; exact hk.elim
    | true =>
      rw [hc,cond_true] at hk
      rw [cond_true]
      obtain ⟨σ',h1,h2⟩:=hk
      cases e with
      | normal=>exact ⟨σ',h1,σ', .refl _,h2⟩
      | exit id=>exact ⟨σ',h1,h2⟩
      | goto l=>exact ⟨σ',h1,h2⟩
      | ret=>exact ⟨σ',h1,h2⟩
      | panic ch=>exact ⟨σ',h1,h2⟩
      | outgrown=>exact ⟨σ',h1,h2⟩
theorem ar.at_ {l l':List Code} (e:l = l') (h:ar P N l' K σ):ar P N l K σ:=e ▸ h
theorem ar.end_ {l:List Code} (e:l = []) (h:K .normal σ):ar P N l K σ:=by subst e; exact ZZ h
theorem ar.cons_loop {r:List Code} {id:Nat} (h:aC P N (.loop x) (bj id (aH (ar P N r K) K)) σ):ar P N (.block id (.loop x) :: r) K σ:=aC.block h
end
theorem bT {S R α:Type} {f:S→Option (S ⊕ R)} {s:S} {g:R→Option α} {Q:α→Prop} {Q':R→Prop} (h:W ((fixL f s).bind g) Q) (hq:∀ r,W (g r) Q→Q' r):W (fixL f s) Q':=aiW (adt h) hq
def orC (c c':bU):bU:=fun vs=>match c vs with | some r=>some r | none=>c' vs
theorem bc.or {P:Program} {f:FuncId} {c c':bU} (h:bc P f c) (h':bc P f c'):bc P f (orC c c'):=by
  intro ok w xs vs p out h1 h2 h3 h4
  unfold orC at h3
  split at h3
  · next r hr=>cases h3; exact h ok w xs vs p out h1 h2 hr h4
  · exact h' ok w xs vs p out h1 h2 h3 h4
end Go.Ax
namespace Go.Ax
open Go.RowKit
mutual
def V.mp (f:Nat→Nat):V→V
  | .c d=>.c d
  | .agg vs=>.agg (V.mps f vs)
  | .tup vs=>.tup (V.mps f vs)
  | .ptr o k i j=>.ptr (f o) k i j
  | .row o k off n=>.row (f o) k off n
  | .dptr k cs j=>.dptr k cs j
  | .fn g caps=>.fn g (V.mps f caps)
def V.mps (f:Nat→Nat):List V→List V
  | []=>[]
  | v :: r=>V.mp f v :: V.mps f r
end
def Ob.mp (f:Nat→Nat):Ob→Ob
  | .box cs=>.box (V.mps f cs)
  | .row t k n el=>.row t k n el
  | .raw x=>.raw x
mutual
def V.sclr:V→Bool
  | .c d=>d.scal
  | .agg vs=>V.sclrs vs
  | .tup vs=>V.sclrs vs
  | .ptr ..=>true
  | .row ..=>true
  | .dptr ..=>false
  | .fn _ vs=>V.sclrs vs
def V.sclrs:List V→Bool
  | []=>true
  | v :: r=>V.sclr v&&V.sclrs r
end
def TW:Ob→Prop
  | .box cs=>V.sclrs cs = true
  | .row _ _ n el=>∀ i,i < n→∀ d∈el i,d.scal = true
  | .raw _=>True
def nL:Ob→List Nat
  | .box cs=>V.refss cs
  | .row ..=>[]
  | .raw _=>[]
mutual
def V.rrefs:V→List Nat
  | .agg vs=>V.rrefss vs
  | .tup vs=>V.rrefss vs
  | .row o _ _ _=>[o]
  | .fn _ caps=>V.rrefss caps
  | _=>[]
def V.rrefss:List V→List Nat
  | []=>[]
  | v :: r=>V.rrefs v++V.rrefss r
end
def tx:Ob→List Nat
  | .box cs=>V.rrefss cs
  | .row ..=>[]
  | .raw _=>[]
def dg (q:Nat):Ob→V
  | .box cs=>.ptr q cs.length 0 0
  | .row _ k n _=>.row q k 0 n
  | .raw _=>.ptr q 1 0 0
def xI:Ob→Ob→Prop
  | .box _, .box _=>True
  | .row _ _ n _, .row _ _ n' _=>n = n'
  | .raw _, .raw _=>True
  | _,_=>False
def pQ (H:am):List (Nat × bz):=H.map fun x=>(1000000+x.1,match x.2 with | some b=>⟨[],dg x.1 b⟩ | none=>⟨[], .c .unk⟩)
def kR (os:List Nat) (H:am):List Bool→List V→List V
  | _,[]=>[]
  | b :: fl,v :: r=>(bif b then v.ren os else v.view H) :: kR os H fl r
  | [],v :: r=>v.view H :: kR os H [] r
def KJ:Option Ob→Bool
  | some (.row ..)=>true
  | some (.box cs)=>(V.refss cs).isEmpty
  | _=>false
def T0 (H:am) (vs:List V):Bool:=(V.refss vs).all fun o=>KJ (H.get o)
def Ki (os:List Nat) (H:am) (nr:Bool) (v:V):Bool:=bif nr then v.refs.isEmpty else T0 H [v]&&v.refs.all fun o=>!(jq o os)
def dY (os:List Nat) (H:am) (nr:Bool):List Bool→List V→Bool
  | _,[]=>true
  | b :: fl,v :: r=>(bif b then v.refs.all (fun o=>jq o os) else Ki os H nr v)&&dY os H nr fl r
  | [],v :: r=>Ki os H nr v&&dY os H nr [] r
def zO (os:List Nat) (H:am):Bool:=os.all fun o=>match am.get H o with | some b=>FX os b | none=>false
def jW:List (Nat × Nat)→Nat→Nat
  | [],_=>0
  | (q',o) :: r,q=>bif Nat.beq q' q then o else jW r q
def qU:List (Nat × Nat)→Nat→Option Nat
  | [],_=>none
  | (q,o') :: r,o=>bif Nat.beq o' o then some q else qU r o
structure Left (os:List Nat) (nid:Nat) (H:am) (sc:Bool) (r:cM) (m:List (Nat × Nat)) (σ:St) (v:V):Prop where
  inj:∀ q q' o,(q,o)∈m→(q',o)∈m→q = q'
  fn:∀ q o o',(q,o)∈m→(q,o')∈m→o = o'
  to:∀ q o,(q,o)∈m→o∈os∨o = nid
  val:VLe (v.mp (jW m)) r.val
  vrefs:∀ q∈v.refs,q∈m.map (·.1)
  vrows:v.rrefs.all (fun q=>qq (am.get σ.hp q)) = true
  vsc:sc = true∨v.sclr = true
  has:∀ q o,(q,o)∈m→∃ ob,am.get σ.hp q = some ob
  obs:∀ o ob',am.get r.eff o = some ob'→∃ q ob,(q,o)∈m∧am.get σ.hp q = some ob∧pD (ob.mp (jW m)) ob'∧(∀ p∈nL ob,p∈m.map (·.1))∧(tx ob).all (fun q=>qq (am.get σ.hp q)) = true∧(sc = true∨TW ob)
  all:∀ o∈os,o∈hT r.eff
  kill:∀ o∈r.kill,o∈os
  keep:∀ i o,os[i]? = some o→o∈r.kill∨∃ q ob ob',(q,o)∈m∧am.get H o = some ob∧am.get σ.hp q = some ob'∧xI ob ob'∧bv σ.tm (1000000+i) = some ⟨[],dg q ob⟩
def eo (P:Program) (rs:List ResultVar) (Q:St→V→Prop):Exit→St→Prop
  | .ret,σ=>(match kY P σ rs with | some v=>Q σ v | none=>False)
  | .normal,σ=>(match kY P σ rs with | some v=>Q σ v | none=>False)
  | _,_=>False
section
variable {P:Program} {N:Nat} {B:j5} {σ σ':St} {E E':br} {a:Act} {w w':World} {H:am}
theorem sG (f:Nat→Nat):∀ vs:List V,(V.mps f vs).length = vs.length
  | []=>rfl
  | _ :: r=>by simp [V.mps,sG f r]
theorem CJ (f:Nat→Nat):∀ (vs:List V) (i:Nat),(V.mps f vs)[i]? = (vs[i]?).map (V.mp f)
  | [],i=>by simp [V.mps]
  | v :: r,0=>by simp [V.mps]
  | v :: r,i+1=>by simp [V.mps,CJ f r i]
theorem vQ:∀ {vs:List V} {i:Nat} {v:V},V.sclrs vs = true→vs[i]? = some v→v.sclr = true
  | [],i,v,_,h=>by simp at h
  | x :: r,0,v,hs,h=>by
    simp only [V.sclrs,Bool.and_eq_true] at hs
    simp at h; subst h; exact hs.1
  | x :: r,i+1,v,hs,h=>by
    simp only [V.sclrs,Bool.and_eq_true] at hs
    exact vQ hs.2 (by simpa using h)
theorem sd {o:Nat}:∀ {vs:List V} {i:Nat} {v:V},vs[i]? = some v→o∈v.rrefs→o∈V.rrefss vs
  | [],i,v,h,_=>by simp at h
  | x :: r,0,v,h,ho=>by simp at h; subst h; simp [V.rrefss,ho]
  | x :: r,i+1,v,h,ho=>by
    simp only [V.rrefss,List.mem_append]
    exact .inr (sd (by simpa using h) ho)
mutual
theorem rrefs_refs:∀ (v:V), ∀ q∈v.rrefs,q∈v.refs
  | .c _=>by simp [V.rrefs]
  | .agg vs=>by simp only [V.rrefs,V.refs]; exact rrefss_refs vs
  | .tup vs=>by simp only [V.rrefs,V.refs]; exact rrefss_refs vs
  | .ptr ..=>by simp [V.rrefs]
  | .row ..=>by simp [V.rrefs,V.refs]
  | .dptr ..=>by simp [V.rrefs]
  | .fn _ vs=>by simp only [V.rrefs,V.refs]; exact rrefss_refs vs
theorem rrefss_refs:∀ (vs:List V), ∀ q∈V.rrefss vs,q∈V.refss vs
  | []=>by simp [V.rrefss]
  | v :: r=>by
    intro q hq
    simp only [V.rrefss,V.refss,List.mem_append] at hq ⊢
    exact hq.imp (rrefs_refs v q) (rrefss_refs r q)
end
theorem aK.ptr_inv {v:Value} {o k i j:Nat} (h:aK E w v (.ptr o k i j)):∃ b,E.conc o = some b∧v = .pointer (some ⟨b,i*k+j,none⟩):=by
  generalize hd:V.ptr o k i j = d at h
  cases h with
  | ptr o' k' i' j' b h1 h2 h3=>cases hd; exact ⟨b,h2,rfl⟩
  | _=>cases hd
theorem aK.row_inv {v:Value} {o k n:Nat} (h:aK E w v (.row o k 0 n)):∃ (a:Option Addr) (c:Nat),v = .slice a n c∧((a = none∧c = 0∧E.conc o = none)∨∃ b,E.conc o = some b∧a = some ⟨b,0,none⟩∧c = E.cap o):=by
  generalize hd:V.row o k 0 n = d at h
  cases h with
  | row o' k' off' n' a c hn hc hm hl ha h0=>cases hd; exact ⟨a,c,rfl,h0 rfl⟩
  | _=>cases hd
def Qh (E E':br) (f:Nat→Nat) (q:Nat):Prop :=
  E'.live (f q)∧E'.conc (f q) = E.conc q∧E'.len (f q) = E.len q
def BS (E E':br) (f:Nat→Nat) (q:Nat):Prop:=E.conc q = none∨E'.cap (f q) = E.cap q
theorem aK.mp {f:Nat→Nat} {v:Value} {d:V} (h:aK E w v d):(∀ q∈V.refs d,E.live q→Qh E E' f q)→(∀ q∈V.rrefs d,E.live q→BS E E' f q)→((∀ b,E.ok b→E'.ok b)∨d.sclr = true)→aK E' w v (d.mp f):=by
  induction h with
  | c v d h =>
    intro _ _ hs
    rcases hs with hs | hs
    · exact .c v d (h.mono hs fun _ _=>rfl)
    · exact .c v d (vO h hs)
  | agg vs ds hl h ih =>
    intro hr hr2 hs
    rw [V.mp]
    refine .agg vs _ (by rw [sG,hl]) fun i v d hv hd=>?_
    rw [CJ] at hd
    cases hx:ds[i]? with
    | none=>rw [hx] at hd; cases hd
    | some x=>rw [hx] at hd; cases hd; exact ih i v x hv hx (fun o ho=>hr o (dx hx ho)) (fun o ho=>hr2 o (sd hx ho)) (hs.imp id fun hs=>vQ hs hx)
  | tup vs ds hl h ih =>
    intro hr hr2 hs
    rw [V.mp]
    refine .tup vs _ (by rw [sG,hl]) fun i v d hv hd=>?_
    rw [CJ] at hd
    cases hx:ds[i]? with
    | none=>rw [hx] at hd; cases hd
    | some x=>rw [hx] at hd; cases hd; exact ih i v x hv hx (fun o ho=>hr o (dx hx ho)) (fun o ho=>hr2 o (sd hx ho)) (hs.imp id fun hs=>vQ hs hx)
  | ptr o k i j b h1 h2 h3 =>
    intro hr _ _
    obtain ⟨g1,g2,g3⟩:=hr o (by simp [V.refs]) h1
    rw [V.mp]
    exact .ptr _ k i j b g1 (g2.trans h2) (by rw [g3]; exact h3)
  | row o k off n a c hn hc hm hl ha h0 =>
    intro hr hr2 _
    obtain ⟨g1,g2,g3⟩:=hr o (by simp [V.refs]) hn
    have g4:=hr2 o (by simp [V.rrefs]) hn
    rw [V.mp]
    refine .row _ k off n a c g1 hc hm (by rw [g3]; exact hl) (by rw [g2]; exact ha) fun h=>?_
    rcases h0 h with h | ⟨b,h1,h2,h3⟩
    · exact .inl (by rw [g2]; exact h)
    · refine .inr ⟨b,by rw [g2]; exact h1,h2, ?_⟩
      rcases g4 with g4 | g4
      · rw [g4] at h1; cases h1
      · rw [g4]; exact h3
  | dptr k cs j ad u h1 h2 h3 h4 =>
    intro _ _ hs
    rcases hs with hs | hs
    · exact .dptr k cs j ad u (hs _ h1) h2 h3 fun i d hd=>(h4 i d hd).mono hs fun _ _=>rfl
    · simp [V.sclr] at hs
  | fn g vs ds hl h ih =>
    intro hr hr2 hs
    rw [V.mp]
    refine .fn g vs _ (by rw [sG,hl]) fun i v d hv hd=>?_
    rw [CJ] at hd
    cases hx:ds[i]? with
    | none=>rw [hx] at hd; cases hd
    | some x=>rw [hx] at hd; cases hd; exact ih i v x hv hx (fun o ho=>hr o (dx hx ho)) (fun o ho=>hr2 o (sd hx ho)) (hs.imp id fun hs=>vQ hs hx)
theorem ly.mp {f:Nat→Nat} {q:Nat} {ob:Ob} (h:ly E w q ob) (hq:Qh E E' f q) (hqc:qq (some ob) = true→BS E E' f q) (hr:∀ p∈nL ob,E.live p→Qh E E' f p) (hr2:∀ p∈tx ob,E.live p→BS E E' f p) (hs:(∀ b,E.ok b→E'.ok b)∨TW ob):ly E' w (f q) (ob.mp f):=by
  obtain ⟨g1,g2,g3⟩:=hq
  cases ob with
  | box cs =>
    obtain ⟨e1,b,C,t,e2,e3,e4,e5⟩:=h
    refine ⟨g3.trans e1,b,C,t,g2.trans e2,e3, ?_,fun i v d hv hd=>?_⟩
    · rw [sG]; exact e4
    · rw [CJ] at hd
      cases hx:cs[i]? with
      | none=>rw [hx] at hd; cases hd
      | some x =>
        rw [hx] at hd; cases hd
        exact (e5 i v x hv hx).mp (fun p hp=>hr p (dx hx hp)) (fun p hp=>hr2 p (sd hx hp)) (hs.imp id fun hs=>vQ hs hx)
  | raw x =>
    obtain ⟨h1,b,h2,h3⟩:=h
    exact ⟨g3.trans h1,b,g2.trans h2,h3⟩
  | row t k n el =>
    obtain ⟨h1,h2⟩:=h
    refine ⟨g3.trans h1, ?_⟩
    rcases h2 with ⟨h2,h3⟩ | ⟨b,C,a1,a2,a3,a4,a5,a6,a7,a8⟩
    · exact .inl ⟨g2.trans h2,h3⟩
    · have hcap:E'.cap (f q) = E.cap q:=by
        rcases hqc rfl with g4 | g4
        · rw [g4] at a1; cases a1
        · exact g4
      refine .inr ⟨b,C,g2.trans a1,a2,by rw [hcap]; exact a3,by rw [hcap]; exact a4,by rw [hcap]; exact a5,a6,a7,fun i j d u hi hd hu=>?_⟩
      have:=a8 i j d u hi hd hu
      rcases hs with hs | hs
      · exact this.mono hs fun _ _=>rfl
      · exact vO this (hs i hi d (List.mem_of_getElem? hd))
theorem Wd {kl:List Nat} {q:Nat} {ob ob':Ob} (h:ly E w q ob) (hk:fY kl (some ob) = some ob') (hc:E'.conc q = E.conc q∧E'.cap q = E.cap q∧E'.len q = E.len q) (hb:∀ b,E.conc q = some b→w'.heap[b]? = w.heap[b]?)
    (hr:∀ v d,aK E w v d→aK E' w' v (d.killAll kl)) (hd:∀ v d,cx E.ok w v d→cx E'.ok w' v d):ly E' w' q ob':=by
  obtain ⟨c1,c2,c3⟩:=hc
  cases ob with
  | box cs =>
    rw [AN] at hk
    cases hk
    obtain ⟨hl,b,C,t,h1,h2,h3,h4⟩:=h
    refine ⟨c3.trans hl,b,C,t,c1.trans h1,(hb b h1).trans h2,by rw [List.length_map]; exact h3,fun i v d hv hx=>?_⟩
    rw [List.getElem?_map] at hx
    cases hy:cs[i]? with
    | none=>rw [hy] at hx; cases hx
    | some y=>rw [hy] at hx; cases hx; exact hr _ _ (h4 i v y hv hy)
  | raw x =>
    rw [An] at hk
    cases hk
    obtain ⟨hl,b,h1,h2⟩:=h
    exact ⟨c3.trans hl,b,c1.trans h1,(hb b h1).trans h2⟩
  | row t k n el =>
    rw [Ap] at hk
    cases hk
    obtain ⟨hl,h⟩:=h
    refine ⟨c3.trans hl, ?_⟩
    rcases h with ⟨h1,h2⟩ | ⟨b,C,h1,h2,h3,h4,h5,h6,h7,h8⟩
    · exact .inl ⟨c1.trans h1,h2⟩
    · exact .inr ⟨b,C,c1.trans h1,(hb b h1).trans h2,by rw [c2]; exact h3,by rw [c2]; exact h4,by rw [c2]; exact h5,h6,h7,fun i j d u a b c=>hd _ _ (h8 i j d u a b c)⟩
theorem rC:∀ {os:List Nat} {H:am} {o:Nat} {b:Ob},am.get (eH os H) o = some b→am.get H o = some b∧o∈os
  | [],H,o,b,h=>by simp [eH,am.get] at h
  | p :: r,H,o,b,h=>by
    unfold eH at h
    split at h
    · next b' hb' =>
      rw [am.get_cons] at h
      split at h
      · next e=>subst e; cases h; exact ⟨hb',by simp⟩
      · have:=rC h; exact ⟨this.1,List.mem_cons_of_mem _ this.2⟩
    · have:=rC h; exact ⟨this.1,List.mem_cons_of_mem _ this.2⟩
theorem GA:∀ {os:List Nat} {H:am} {o:Nat},o∈os→am.get (eH os H) o = am.get H o
  | [],H,o,h=>by simp at h
  | p :: r,H,o,h=>by
    unfold eH
    by_cases e:p = o
    · subst e
      cases hb:am.get H p with
      | some b=>simp only; rw [am.get_cons,if_pos rfl]
      | none =>
        simp only
        cases hg:am.get (eH r H) p with
        | none=>rfl
        | some b=>rw [(rC hg).1] at hb; cases hb
    · have ho:o∈r:=by
        rcases List.mem_cons.1 h with h | h
        · exact (e h.symm).elim
        · exact h
      split
      · rw [am.get_cons,if_neg e]; exact GA ho
      · exact GA ho
theorem GX (hH:bG E w H) (os:List Nat):bG E w (eH os H) :=
  ⟨fun o ob h=>hH.at_ o ob (rC h).1,hH.inj,hH.sep,hH.lt,hH.oklt⟩
theorem Df {o:Nat} {l:List Nat}:jq o l = true↔o∈l:=⟨l8,fun h=>List.any_eq_true.2 ⟨o,h,by simp⟩⟩
theorem TA {os:List Nat} {ok':Nat→Prop} (hH:bG E w H) (h1:∀ b,E.ok b→ok' b) (h2:∀ o b,o ∉ os→E.live o→E.conc o = some b→ok' b) {v:Value} {d:V} (h:aK E w v d)
    (hr:T0 H [d] = true) (ho:d.refs.all (fun o=>!(jq o os)) = true):aK (m6 ok') w v (d.view H):=by
  have hin:∀ o∈d.refs,o ∉ os:=by
    intro o hd hc
    have:=List.all_eq_true.1 ho o hd
    rw [Df.2 hc] at this; cases this
  have hrefs:V.refss [d] = d.refs:=by simp [V.refss]
  have hrow:∀ o∈d.refs,KJ (H.get o) = true:=by
    intro o hd
    unfold T0 at hr
    rw [hrefs] at hr
    exact List.all_eq_true.1 hr o hd
  have hag:kS H (eH d.refs H) d.refs:=by
    refine ⟨fun o ho=>(GA ho).symm,fun o ho cs hb q hq=>?_⟩
    have:=hrow o ho
    rw [hb] at this
    simp only [KJ,List.isEmpty_iff] at this
    rw [this] at hq; cases hq
  rw [view_agree d hag]
  have hv:=h.only (os:=d.refs) fun o h=>h
  have hH1:bG { E with live:=fun o=>E.live o∧o∈d.refs } w (eH d.refs H):=by
    refine ⟨fun o ob hg=>?_,fun o o' b a b'=>hH.inj o o' b a.1 b'.1,fun o b a=>hH.sep o b a.1,fun o b a=>hH.lt o b a.1,hH.oklt⟩
    obtain ⟨g1,g2⟩:=rC hg
    obtain ⟨l1,l2⟩:=hH.at_ o ob g1
    refine ⟨⟨l1,g2⟩, ?_⟩
    have:=hrow o g2
    rw [g1] at this
    cases ob with
    | box cs =>
      simp only [KJ,List.isEmpty_iff] at this
      obtain ⟨k1,b,C,t,k2,k3,k4⟩:=l2
      exact ⟨k1,b,C,t,k2,k3,k4.1,fun i v' d' hv' hd'=>(k4.2 i v' d' hv' hd').only (os:=d.refs) fun o ho=>by
        have:=dx hd' ho
        rw [‹V.refss cs = []›] at this; cases this⟩
    | raw x=>cases this
    | row t k n el=>exact l2
  exact yy hH1 (ok':=ok') h1 hv (.inl fun q b hq hb=>h2 q b (hin q hq.2) hq.1 hb)
def br.hand (E:br) (os:List Nat) (nr:Bool):br:={ E.ren os with ok:=fun b=>E.ok b∨(nr = false∧∃ o,o ∉ os∧E.live o∧E.conc o = some b) }
theorem aK.hand {os:List Nat} {nr:Bool} {v:Value} {d:V} (h:aK (E.ren os) w v d):aK (E.hand os nr) w v d :=
  h.mono (E:=E.ren os) (E':=E.hand os nr) (kl:=[]) (fun _ (h:E.ok _)=>Or.inl h) (fun _ _=>rfl) (fun _ h=>h) (fun _ _ _=>⟨rfl,rfl,rfl⟩) (MR d)
theorem Pe {os:List Nat} {nr:Bool} (hH:bG E w H) {x:Value} {v:V} (h:aK E w x v) (hk:Ki os H nr v = true):aK (E.hand os nr) w x (v.view H):=by
  unfold Ki at hk
  cases nr with
  | true =>
    simp only [cond_true,List.isEmpty_iff] at hk
    exact Af (E':=E.hand os true) (fun b (h:E.ok b)=>Or.inl h) (yy hH (ok':=E.ok) (fun b h=>h) h (.inr hk))
  | false =>
    simp only [cond_false,Bool.and_eq_true] at hk
    have:=TA (os:=os) (ok':=(E.hand os false).ok) hH (fun b h=>.inl h) (fun o b h1 h2 h3=>.inr ⟨rfl,o,h1,h2,h3⟩) h hk.1 hk.2
    exact Af (E':=E.hand os false) (fun b h=>h) this
theorem I2 {os:List Nat} {nr:Bool} (hH:bG E w H):∀ (fl:List Bool) (xs:List Value) (args:List V),cq E w xs args→dY os H nr fl args = true→cq (E.hand os nr) w xs (kR os H fl args)
  | fl,xs,[],hx,_=>by
    have:kR os H fl [] = []:=by cases fl <;> rfl
    rw [this]
    exact ⟨hx.1,fun i v d _ hd=>by simp at hd⟩
  | b :: fl,[],v :: r,hx,_=>by have:=hx.1; simp at this
  | b :: fl,x :: xs,v :: r,hx,hk=>by
    simp only [dY,Bool.and_eq_true] at hk
    have ih:=I2 hH fl xs r ⟨by simpa using hx.1,fun i v d hv hd=>hx.2 (i+1) v d (by simpa using hv) (by simpa using hd)⟩ hk.2
    refine ⟨by simpa [kR] using ih.1,fun i v' d hv hd=>?_⟩
    match i with
    | 0 =>
      simp [kR] at hv hd
      subst hv hd
      have h0:=hx.2 0 x v rfl rfl
      cases b with
      | true =>
        simp only [cond_true] at hk ⊢
        exact (h0.ren fun o ho=>l8 (List.all_eq_true.1 hk.1 o ho)).hand
      | false =>
        simp only [cond_false] at hk ⊢
        exact Pe hH h0 hk.1
    | i+1=>exact ih.2 i v' d (by simpa using hv) (by simpa [kR] using hd)
  | [],[],v :: r,hx,_=>by have:=hx.1; simp at this
  | [],x :: xs,v :: r,hx,hk=>by
    simp only [dY,Bool.and_eq_true] at hk
    have ih:=I2 hH [] xs r ⟨by simpa using hx.1,fun i v d hv hd=>hx.2 (i+1) v d (by simpa using hv) (by simpa using hd)⟩ hk.2
    refine ⟨by simpa [kR] using ih.1,fun i v' d hv hd=>?_⟩
    match i with
    | 0 =>
      simp [kR] at hv hd
      subst hv hd
      exact Pe hH (hx.2 0 x v rfl rfl) hk.1
    | i+1=>exact ih.2 i v' d (by simpa using hv) (by simpa [kR] using hd)
end
end Go.Ax
namespace Go.Ax
open Go.RowKit
section
variable {P:Program} {N:Nat} {B:j5} {σ σ':St} {E E' Ec:br} {a:Act} {w w':World} {H:am} {os:List Nat} {nr:Bool}
theorem Iz:∀ (A B:List (Nat × bz)) (t:Nat),bv (A++B) t = match bv A t with | some s=>some s | none=>bv B t
  | [],B,t=>rfl
  | (q,x) :: A,B,t=>by
    rw [List.cons_append,dw,dw]
    split
    · rfl
    · exact Iz A B t
theorem Ik:∀ (H:am) (t:Nat) (s:bz),bv (pQ H) t = some s→∃ q,t = 1000000+q∧((∃ ob,am.get H q = some ob∧s = ⟨[],dg q ob⟩)∨s = ⟨[], .c .unk⟩)
  | [],t,s,h=>by simp [pQ,bv] at h
  | (p,b) :: H,t,s,h=>by
    unfold pQ at h
    rw [List.map_cons,dw] at h
    split at h
    · next e =>
      cases h
      refine ⟨p,e.symm, ?_⟩
      cases b with
      | none=>exact .inr rfl
      | some b=>exact .inl ⟨b,by rw [am.get_cons,if_pos rfl],rfl⟩
    · next e =>
      obtain ⟨q,h1,h2⟩:=Ik H t s h
      refine ⟨q,h1,h2.imp (fun ⟨ob,g1,g2⟩=>⟨ob, ?_,g2⟩) id⟩
      rw [am.get_cons,if_neg (fun e'=>e (by rw [e',h1]))]
      exact g1
theorem Sr (q:Nat) (ob:Ob):dg q (ob.ren os) = dg q ob:=by
  cases ob with
  | box cs=>simp [dg,Ob.ren,js]
  | row t k n el=>rfl
  | raw x=>rfl
theorem Uv {i o:Nat} {ob:Ob} (hi:os[i]? = some o) (hl:E.live o) (h:ly E w o ob):∃ u,aK (E.hand os nr) w u (dg i ob):=by
  have hlive:(E.hand os nr).live i:=⟨o,hi,hl⟩
  have hconc:(E.hand os nr).conc i = E.conc o:=by simp [br.hand,br.ren,hi]
  have hcap:(E.hand os nr).cap i = E.cap o:=by simp [br.hand,br.ren,hi]
  have hlen:(E.hand os nr).len i = E.len o:=by simp [br.hand,br.ren,hi]
  cases ob with
  | box cs =>
    obtain ⟨h1,b,C,t,h2,h3,h4⟩:=h
    exact ⟨_, .ptr i cs.length 0 0 b hlive (hconc.trans h2) (by rw [hlen,h1]; exact Nat.zero_lt_one)⟩
  | raw x =>
    obtain ⟨h1,b,h2,h3⟩:=h
    exact ⟨_, .ptr i 1 0 0 b hlive (hconc.trans h2) (by rw [hlen,h1]; exact Nat.zero_lt_one)⟩
  | row t k n el =>
    obtain ⟨h1,h2⟩:=h
    rcases h2 with ⟨h2,h3⟩ | ⟨b,C,g1,g2,g3,g4,g5,_⟩
    · subst h3
      exact ⟨.slice none 0 0, .row i k 0 0 none 0 hlive (Nat.le_refl _) (by simp [maxLen]) (by rw [hlen,h1]; omega) (fun h=>by omega) fun _=>.inl ⟨rfl,rfl,hconc.trans h2⟩⟩
    · exact ⟨.slice (some ⟨b,0,none⟩) n (E.cap o), .row i k 0 n _ _ hlive g4 g5 (by rw [hlen,h1]; omega) (fun _=>⟨b,hconc.trans g1,by simp⟩) fun _=>.inr ⟨b,hconc.trans g1,rfl,hcap.symm⟩⟩
theorem Yb (hH:bG E w H) (hn:hY os = true) (hb:zO os H = true) {xs:List Value} {vs:List V} (hx:cq (E.hand os nr) w xs vs) (hN:vs.length≤N) (hsm:N≤1000000) :
    ∃ gh:Nat→Value,(∀ i o ob,os[i]? = some o→am.get H o = some ob→aK (E.hand os nr) w (gh (1000000+i)) (dg i ob)) ∧
      dQ N ⟨w,(E.hand os nr).ok,fun b=>∃ o∈os,E.conc o = some b,gh⟩ { tm:=gk vs 0++pQ (i6 H os 0 os),hp:=i6 H os 0 os,nx:=os.length } (E.hand os nr) { tmps:=xs.toArray++Array.replicate (N - xs.toArray.size) undef,defers:=[] } w:=by
  have hob:∀ o∈os, ∃ b,am.get H o = some b∧FX os b = true:=by
    intro o ho
    have:=List.all_eq_true.1 hb o ho
    cases hg:am.get H o with
    | none=>rw [hg] at this; cases this
    | some b=>rw [hg] at this; exact ⟨b,rfl,this⟩
  have hex:∀ t, ∃ u, ∀ i o ob,t = 1000000+i→os[i]? = some o→am.get H o = some ob→aK (E.hand os nr) w u (dg i ob):=by
    intro t
    cases ho:os[t - 1000000]? with
    | none=>exact ⟨undef,fun i o ob e h _=>by subst e; rw [Nat.add_sub_cancel_left] at ho; rw [ho] at h; cases h⟩
    | some o =>
      obtain ⟨b,hg,_⟩:=hob o (List.mem_of_getElem? ho)
      obtain ⟨l1,l2⟩:=hH.at_ o b hg
      obtain ⟨u,hu⟩:=Uv (nr:=nr) ho l1 l2
      refine ⟨u,fun i o' ob e h1 h2=>?_⟩
      subst e
      rw [Nat.add_sub_cancel_left] at ho hu
      rw [ho] at h1; cases h1
      rw [hg] at h2; cases h2
      exact hu
  have hgh:∀ i o ob,os[i]? = some o→am.get H o = some ob→aK (E.hand os nr) w (Classical.choose (hex (1000000+i))) (dg i ob):=fun i o ob h1 h2=>Classical.choose_spec (hex (1000000+i)) i o ob rfl h1 h2
  refine ⟨fun t=>Classical.choose (hex t),hgh, ?_⟩
  have hl:=hx.1
  have hE:∀ q o,os[q]? = some o→(E.hand os nr).conc q = E.conc o:=fun q o hq=>by simp [br.hand,br.ren,hq]
  refine ⟨?_,hsm,rfl,fun q hq h=>?_,⟨fun q ob ho=>?_,fun q q' b hq hq' hb hb'=>?_,fun q b hq hb=>?_,fun q b hq hb=>?_,fun b h=>?_⟩,fun t s hg=>?_, .refl _ _ _,fun q b hq hb=>?_,fun b h=>.inl h⟩
  · simp; omega
  · obtain ⟨o,ho,_⟩:=h
    have:=(List.getElem?_eq_some_iff.1 ho).1
    have hq':os.length≤q:=hq
    omega
  · obtain ⟨o,b',g1,g2,g3,rfl⟩:=yp H os os 0 q ob ho
    have g1':os[q]? = some o:=by simpa using g1
    obtain ⟨l1,l2⟩:=hH.at_ o b' g3
    obtain ⟨b2,k1,k2⟩:=hob o (List.mem_of_getElem? g1')
    rw [g3] at k1; cases k1
    refine ⟨⟨o,g1',l1⟩, ?_⟩
    have:=l2.ren (os:=os) g1' k2
    exact rm (E':=E.hand os nr) this ⟨rfl,rfl,rfl⟩ (fun _ _=>rfl) (fun v d h=>h.hand) (fun v d h=>h.mono (fun b (h:E.ok b)=>Or.inl h) fun _ _=>rfl)
  · obtain ⟨o,ho,l⟩:=hq
    obtain ⟨o',ho',l'⟩:=hq'
    rw [hE q o ho] at hb
    rw [hE q' o' ho'] at hb'
    have:=hH.inj o o' b l l' hb hb'
    subst this
    exact DJ hn q q' o ho ho'
  · obtain ⟨o,ho,l⟩:=hq
    rw [hE q o ho] at hb
    rintro (h | ⟨_,o',h1,h2,h3⟩)
    · exact hH.sep o b l hb h
    · have:=hH.inj o o' b l h2 hb h3
      subst this
      exact h1 (List.mem_of_getElem? ho)
  · obtain ⟨o,ho,l⟩:=hq
    rw [hE q o ho] at hb
    exact hH.lt o b l hb
  · rcases h with h | ⟨_,o,_,h2,h3⟩
    · exact hH.oklt b h
    · exact hH.lt o b h2 h3
  · rw [Iz] at hg
    cases hi:bv (gk vs 0) t with
    | some s' =>
      rw [hi] at hg
      cases hg
      obtain ⟨v,_,h2,rfl⟩:=D9 vs 0 t s hi
      rw [Nat.sub_zero] at h2
      have hlt:t < xs.length:=by rw [hl]; exact (List.getElem?_eq_some_iff.1 h2).1
      have hget:(xs.toArray++Array.replicate (N - xs.toArray.size) undef).getD t undef = xs[t]:=by
        rw [Array.getD_eq_getD_getElem?,Array.getElem?_append_left (by simpa using hlt)]
        simp [hlt]
      refine ⟨fun _=>?_,fun _ h=>by simp [holds] at h⟩
      rw [Ad (by omega)]
      simp only
      rw [hget]
      exact hx.2 t _ v (List.getElem?_eq_getElem hlt) h2
    | none =>
      rw [hi] at hg
      obtain ⟨q,rfl,hs⟩:=Ik _ t s hg
      rcases hs with ⟨ob,g1,rfl⟩ | rfl
      · obtain ⟨o,b',k1,k2,k3,rfl⟩:=yp H os os 0 q ob g1
        refine ⟨fun _=>?_,fun _ h=>by simp [holds] at h⟩
        have:kT (⟨w,(E.hand os nr).ok,fun b=>∃ o∈os,E.conc o = some b,fun t=>Classical.choose (hex t)⟩:j5) { tmps:=xs.toArray++Array.replicate (N - xs.toArray.size) undef,defers:=[] } (1000000+q) = Classical.choose (hex (1000000+q)):=if_neg (by omega)
        rw [this,Sr]
        exact hgh q o b' (by simpa using k1) k3
      · exact ⟨fun _=>.c _ _ (.unk _),fun _ h=>by simp [holds] at h⟩
  · obtain ⟨o,ho,l⟩:=hq
    rw [hE q o ho] at hb
    exact .inr ⟨o,List.mem_of_getElem? ho,hb⟩
theorem MB:∀ {m:List (Nat × Nat)} {q:Nat},q∈m.map (·.1)→(q,jW m q)∈m
  | [],q,h=>by simp at h
  | (p,o) :: m,q,h=>by
    unfold jW
    cases hb:Nat.beq p q with
    | true=>rw [Nat.eq_of_beq_eq_true hb]; simp
    | false =>
      have hne:p≠q:=fun e=>by subst e; simp at hb
      rw [cond_false]
      rw [List.map_cons,List.mem_cons] at h
      rcases h with h | h
      · exact (hne h.symm).elim
      · exact List.mem_cons_of_mem _ (MB h)
theorem x8:∀ {m:List (Nat × Nat)} {q o:Nat},qU m o = some q→(q,o)∈m
  | [],q,o,h=>by simp [qU] at h
  | (p,o') :: m,q,o,h=>by
    unfold qU at h
    cases hb:Nat.beq o' o with
    | true=>rw [hb,cond_true] at h; cases h; rw [Nat.eq_of_beq_eq_true hb]; simp
    | false=>rw [hb,cond_false] at h; exact List.mem_cons_of_mem _ (x8 h)
theorem zF:∀ {m:List (Nat × Nat)} {q o:Nat},qU m o = none→(q,o) ∉ m
  | [],q,o,_=>by simp
  | (p,o') :: m,q,o,h=>by
    unfold qU at h
    cases hb:Nat.beq o' o with
    | true=>rw [hb,cond_true] at h; cases h
    | false =>
      rw [hb,cond_false] at h
      intro hm
      rcases List.mem_cons.1 hm with hm | hm
      · cases hm; simp at hb
      · exact zF h hm
noncomputable def br.back (E Ec:br) (w:World) (os:List Nat) (nid:Nat) (kl:List Nat) (m:List (Nat × Nat)):br where
  conc o:=match qU m o with | some q=>Ec.conc q | none=>bif jq o os then none else E.conc o
  cap o:=match qU m o with | some q=>(bif jq o os&&!(jq o kl) then E.cap o else Ec.cap q) | none=>E.cap o
  len o:=match qU m o with | some q=>Ec.len q | none=>E.len o
  live o:=E.live o∨(o = nid∧∃ q,(q,nid)∈m)
  ok b:=E.ok b∨((w.heap.size≤b∨∃ o∈os,E.conc o = some b)∧Ec.ok b)
theorem Eg {o:Nat} {l:List Nat} (h:o ∉ l):jq o l = false:=by
  cases hb:jq o l with
  | false=>rfl
  | true=>exact (h (l8 hb)).elim
theorem Vc {H0:am} (hH0:bG E w H0) {gh:Nat→Value} {r:cM} {nid:Nat} {m:List (Nat × Nat)} {v:V} {u:Value} (hH:bG E w H) (hf:¬ E.live nid) (hn:hY os = true) (hos:∀ o∈os, ∃ b,am.get H o = some b)
    (hgh:∀ i o ob,os[i]? = some o→am.get H o = some ob→aK (E.hand os nr) w (gh (1000000+i)) (dg i ob))
    (hs:dQ N ⟨w,(E.hand os nr).ok,fun b=>∃ o∈os,E.conc o = some b,gh⟩ σ Ec a w') (hu:aK Ec w' u v) (hl:Left os nid H nr r m σ v) :
    gn E w H0 nid r (E.back Ec w os nid r.kill m) w' u:=by
  have hlive:∀ o∈os,E.live o:=fun o ho=>by
    obtain ⟨b,hb⟩:=hos o ho
    exact (hH.at_ o b hb).1
  have hnid:nid ∉ os:=fun h=>hf (hlive nid h)
  have inv:∀ q o,(q,o)∈m→qU m o = some q:=by
    intro q o h
    cases hi:qU m o with
    | none=>exact (zF hi h).elim
    | some q'=>rw [hl.inj q q' o h (x8 hi)]
  have look:∀ q o,(q,o)∈m→jW m q = o:=fun q o h=>hl.fn q _ o (MB (List.mem_map.2 ⟨_,h,rfl⟩)) h
  have clive:∀ q o,(q,o)∈m→Ec.live q:=fun q o h=>by
    obtain ⟨ob,hob⟩:=hl.has q o h
    exact (hs.heap.at_ q ob hob).1
  have out:∀ o,E.live o→o ∉ os→qU m o = none:=by
    intro o h1 h2
    cases hi:qU m o with
    | none=>rfl
    | some q =>
      rcases hl.to q o (x8 hi) with h | h
      · exact (h2 h).elim
      · exact (hf (h ▸ h1)).elim
  have kept:∀ o∈os,o ∉ r.kill→∃ q,(q,o)∈m∧Ec.conc q = E.conc o∧(qq (am.get σ.hp q) = true→E.conc o = none∨Ec.cap q = E.cap o)∧Ec.len q = E.len o:=by
    intro o ho hk
    obtain ⟨i,hi⟩:=List.getElem?_of_mem ho
    rcases hl.keep i o hi with h | ⟨q,ob,ob',h1,h2,h3,h4,h5⟩
    · exact (hk h).elim
    refine ⟨q,h1, ?_⟩
    have g0:=hgh i o ob hi h2
    have g1:=(hs.slots _ _ h5).1 rfl
    have hv:kT (⟨w,(E.hand os nr).ok,fun b=>∃ o∈os,E.conc o = some b,gh⟩:j5) a (1000000+i) = gh (1000000+i):=if_neg (by omega)
    rw [hv] at g1
    have hconc:(E.hand os nr).conc i = E.conc o:=by simp [br.hand,br.ren,hi]
    have hcap:(E.hand os nr).cap i = E.cap o:=by simp [br.hand,br.ren,hi]
    have l0:=(hH.at_ o ob h2).2
    have l1:=(hs.heap.at_ q ob' h3).2
    cases ob with
    | box cs =>
      cases ob' with
      | row t k n el=>exact h4.elim
      | raw x=>exact h4.elim
      | box cs' =>
        simp only [dg] at g0 g1
        obtain ⟨b,a2,e0⟩:=g0.ptr_inv
        obtain ⟨b',b2,e1⟩:=g1.ptr_inv
        rw [e0] at e1
        have eb:b = b':=by
          have:=congrArg (fun v:Value=>match v with | .pointer (some a)=>a.block | _=>0) e1
          exact this
        subst eb
        refine ⟨?_, ?_, ?_⟩
        · rw [b2, ← hconc,a2]
        · rw [h3]; intro h; cases h
        · rw [l0.1,l1.1]
    | raw x =>
      cases ob' with
      | row t k n el=>exact h4.elim
      | box cs'=>exact h4.elim
      | raw y =>
        simp only [dg] at g0 g1
        obtain ⟨b,a2,e0⟩:=g0.ptr_inv
        obtain ⟨b',b2,e1⟩:=g1.ptr_inv
        rw [e0] at e1
        have eb:b = b':=by
          have:=congrArg (fun v:Value=>match v with | .pointer (some a)=>a.block | _=>0) e1
          exact this
        subst eb
        refine ⟨?_, ?_, ?_⟩
        · rw [b2, ← hconc,a2]
        · rw [h3]; intro h; cases h
        · rw [l0.1,l1.1]
    | row t k n el =>
      cases ob' with
      | raw x=>exact h4.elim
      | box cs'=>exact h4.elim
      | row t' k' n' el' =>
        have hnn:n = n':=h4
        subst hnn
        simp only [dg] at g0 g1
        obtain ⟨x,c,e0,h0⟩:=g0.row_inv
        obtain ⟨x',c',e1,h0'⟩:=g1.row_inv
        rw [e0] at e1
        cases e1
        refine ⟨?_,fun _=>?_,by rw [l0.1,l1.1]⟩
        · rcases h0 with ⟨p1,p2,p3⟩ | ⟨b,p1,p2,p3⟩ <;> rcases h0' with ⟨q1,q2,q3⟩ | ⟨b',q1,q2,q3⟩
          · rw [q3, ← hconc,p3]
          · rw [p1] at q2; cases q2
          · rw [q1] at p2; cases p2
          · rw [p2] at q2; cases q2
            rw [q1, ← hconc,p1]
        · rcases h0 with ⟨p1,p2,p3⟩ | ⟨b,p1,p2,p3⟩ <;> rcases h0' with ⟨q1,q2,q3⟩ | ⟨b',q1,q2,q3⟩
          · left; rw [← hconc,p3]
          · rw [p1] at q2; cases q2
          · rw [q1] at p2; cases p2
          · right; rw [← q3,p3,hcap]
  have same:∀ q o,(q,o)∈m→Qh Ec (E.back Ec w os nid r.kill m) (jW m) q:=by
    intro q o h
    unfold Qh
    rw [look q o h]
    refine ⟨?_,by simp [br.back,inv q o h],by simp [br.back,inv q o h]⟩
    rcases hl.to q o h with h1 | h1
    · exact .inl (hlive o h1)
    · subst h1; exact .inr ⟨rfl,q,h⟩
  have samecap:∀ q o,(q,o)∈m→qq (am.get σ.hp q) = true→BS Ec (E.back Ec w os nid r.kill m) (jW m) q:=by
    intro q o h hr
    unfold BS
    rw [look q o h]
    simp only [br.back,inv q o h]
    cases hb:jq o os&&!(jq o r.kill) with
    | false=>right; rfl
    | true =>
      rw [Bool.and_eq_true] at hb
      have h1:=l8 hb.1
      have h2:o ∉ r.kill:=fun hk=>by rw [Df.2 hk] at hb; simp at hb
      obtain ⟨q',a1,a2,a3,a4⟩:=kept o h1 h2
      have:=hl.inj q q' o h a1
      subst this
      rcases a3 hr with a3 | a3
      · left; rw [a2,a3]
      · right; rw [cond_true,a3]
  have mem1:∀ q,q∈m.map (·.1)→∃ o,(q,o)∈m:=by
    intro q h
    obtain ⟨⟨q',o⟩,h1,h2⟩:=List.mem_map.1 h
    subst h2
    exact ⟨o,h1⟩
  have hok2:nr = true→∀ b,Ec.ok b→(E.back Ec w os nid r.kill m).ok b:=by
    intro h b hb
    subst h
    rcases hs.okold b hb with (h1 | ⟨h1,_⟩) | h1
    · exact .inl h1
    · cases h1
    · exact .inr ⟨h1,hb⟩
  have rrow:∀ l:List Nat,l.all (fun q=>qq (am.get σ.hp q)) = true→∀ q∈l,qq (am.get σ.hp q) = true:=fun l h=>List.all_eq_true.1 h
  have rsub:∀ v:V, ∀ q∈v.rrefs,q∈v.refs:=rrefs_refs
  have hst:gz E w r.kill (E.back Ec w os nid r.kill m) w':=by
    refine ⟨hs.base.os,hs.base.tape,hs.base.output,hs.base.size,fun o h=>.inl h,fun b hb hno=>?_,fun b h=>.inl h,fun b h=>h.imp id fun h=>h.1.imp id fun ⟨o,h1,h2⟩=>⟨o,hlive o h1,h2⟩,fun o hlo hk=>?_,fun o b hlo hc=>?_⟩
    · exact hs.base.block b hb fun ⟨o,ho,h⟩=>hno o (hlive o ho) h
    · by_cases ho:o∈os
      · obtain ⟨q,h1,h2,h3,h4⟩:=kept o ho hk
        simp only [br.back,inv q o h1,Df.2 ho,Eg hk,Bool.not_false,Bool.and_true,cond_true]
        exact ⟨h2,trivial,h4⟩
      · simp only [br.back,out o hlo ho,Eg ho,cond_false]
        exact ⟨trivial,trivial,trivial⟩
    · cases hi:qU m o with
      | some q =>
        have hm:=x8 hi
        simp only [br.back,hi] at hc
        rcases hs.own q b (clive q o hm) hc with h | ⟨o',h1,h2⟩
        · exact .inr h
        · exact .inl ⟨o',hlive o' h1,h2⟩
      | none =>
        simp only [br.back,hi] at hc
        cases hb:jq o os with
        | true=>rw [hb] at hc; cases hc
        | false =>
          rw [hb,cond_false] at hc
          rcases hlo with h | ⟨h0,q,h⟩
          · exact .inl ⟨o,h,hc⟩
          · subst h0; exact (zF hi h).elim
  have hrep:∀ v d,aK E w v d→aK (E.back Ec w os nid r.kill m) w' v (d.killAll r.kill):=fun v d h=>h.step hst hH.sep hH.oklt
  have hrepD:∀ v d,cx E.ok w v d→cx (E.back Ec w os nid r.kill m).ok w' v d:=fun v d h=>h.mono hst.ok fun b hb=>hst.blk b (hH.oklt b hb) fun o ho hc=>hH.sep o b ho hc hb
  have wher:∀ o b,(E.back Ec w os nid r.kill m).live o→(E.back Ec w os nid r.kill m).conc o = some b→(∃ q,(q,o)∈m∧Ec.conc q = some b)∨(o ∉ os∧E.live o∧E.conc o = some b):=by
    intro o b hlo hc
    cases hi:qU m o with
    | some q=>simp only [br.back,hi] at hc; exact .inl ⟨q,x8 hi,hc⟩
    | none =>
      simp only [br.back,hi] at hc
      cases hb:jq o os with
      | true=>rw [hb] at hc; cases hc
      | false =>
        rw [hb,cond_false] at hc
        have hno:o ∉ os:=fun h=>by rw [Df.2 h] at hb; cases hb
        rcases hlo with h | ⟨h0,q,h⟩
        · exact .inr ⟨hno,h,hc⟩
        · subst h0; exact (zF hi h).elim
  have apart:∀ q o o' b,(q,o)∈m→Ec.conc q = some b→o' ∉ os→E.live o'→E.conc o' = some b→False:=by
    intro q o o' b h1 h2 h3 h4 h5
    rcases hs.own q b (clive q o h1) h2 with h | ⟨o2,g1,g2⟩
    · have:=hH.lt o' b h4 h5
      have h:w.heap.size≤b:=h
      omega
    · have:=hH.inj o' o2 b h4 (hlive o2 g1) h5 g2
      subst this
      exact h3 g1
  refine ⟨hst,⟨fun o ob ho=>?_,fun o o' b h1 h2 h3 h4=>?_,fun o b h1 h2=>?_,fun o b h1 h2=>?_,fun b hb=>?_⟩, ?_,fun q h=>h.imp id (·.1)⟩
  · rw [DK] at ho
    split at ho
    · obtain ⟨q,ob0,h1,h2,h3,h4,h5,h6⟩:=hl.obs o ob ho
      have hsm:=same q o h1
      refine ⟨by have:=hsm.1; rwa [look q o h1] at this, ?_⟩
      have h7:=(hs.heap.at_ q ob0 h2).2.mp (E':=E.back Ec w os nid r.kill m) (f:=jW m) hsm (fun hr=>samecap q o h1 (by rw [h2]; exact hr)) (fun p hp _=>by
        obtain ⟨o',ho'⟩:=mem1 p (h4 p hp); exact same p o' ho') (fun p hp _=>by
        have hp':p∈nL ob0:=by
          cases ob0 with
          | box cs=>exact rrefss_refs cs p hp
          | row=>exact absurd hp (by simp [tx])
          | raw=>exact absurd hp (by simp [tx])
        obtain ⟨o',ho'⟩:=mem1 p (h4 p hp')
        exact samecap p o' ho' (rrow _ h5 p hp)) (h6.imp hok2 id)
      rw [look q o h1] at h7
      exact h7.le h3
    · next hk =>
      have hno:o ∉ os:=fun h=>hk (hl.all o h)
      rw [GB] at ho
      cases hy:am.get H0 o with
      | none=>rw [hy,yJ] at ho; cases ho
      | some y =>
        rw [hy] at ho
        obtain ⟨l1,l2⟩:=hH0.at_ o y hy
        refine ⟨.inl l1,Wd l2 ho ?_ (fun b hb=>?_) hrep hrepD⟩
        · simp only [br.back,out o l1 hno,Eg hno,cond_false]
          exact ⟨trivial,trivial,trivial⟩
        · refine hs.base.block b (hH.lt o b l1 hb) ?_
          rintro ⟨o',h1,h2⟩
          have:=hH.inj o o' b l1 (hlive o' h1) hb h2
          subst this
          exact hno h1
  · rcases wher o b h1 h3 with ⟨q,a1,a2⟩ | ⟨a1,a2,a3⟩ <;> rcases wher o' b h2 h4 with ⟨q',b1,b2⟩ | ⟨b1,b2,b3⟩
    · have:=hs.heap.inj q q' b (clive q o a1) (clive q' o' b1) a2 b2
      subst this
      exact hl.fn q o o' a1 b1
    · exact (apart q o o' b a1 a2 b1 b2 b3).elim
    · exact (apart q' o' o b b1 b2 a1 a2 a3).elim
    · exact hH.inj o o' b a2 b2 a3 b3
  · rcases wher o b h1 h2 with ⟨q,a1,a2⟩ | ⟨a1,a2,a3⟩
    · rintro (h | ⟨_,h⟩)
      · rcases hs.own q b (clive q o a1) a2 with g | ⟨o2,g1,g2⟩
        · have:=hH.oklt b h
          have g:w.heap.size≤b:=g
          omega
        · exact hH.sep o2 b (hlive o2 g1) g2 h
      · exact hs.heap.sep q b (clive q o a1) a2 h
    · rintro (h | ⟨h | ⟨o2,h3,h4⟩,_⟩)
      · exact hH.sep o b a2 a3 h
      · have:=hH.lt o b a2 a3; omega
      · have:=hH.inj o o2 b a2 (hlive o2 h3) a3 h4
        subst this
        exact a1 h3
  · rcases wher o b h1 h2 with ⟨q,a1,a2⟩ | ⟨a1,a2,a3⟩
    · exact hs.heap.lt q b (clive q o a1) a2
    · have:=hH.lt o b a2 a3; have:=hs.base.size
      have h:w.heap.size≤w'.heap.size:=this
      omega
  · rcases hb with h | ⟨_,h⟩
    · have:=hH.oklt b h; have:=hs.base.size
      have h:w.heap.size≤w'.heap.size:=this
      omega
    · exact hs.heap.oklt b h
  · refine (hu.mp (E':=E.back Ec w os nid r.kill m) (f:=jW m) (fun p hp _=>?_) (fun p hp _=>?_) (hl.vsc.imp hok2 id)).le hl.val
    · obtain ⟨o',ho'⟩:=mem1 p (hl.vrefs p hp); exact same p o' ho'
    · obtain ⟨o',ho'⟩:=mem1 p (hl.vrefs p (rsub v p hp))
      exact samecap p o' ho' (rrow _ hl.vrows p hp)
theorem FL {f:FuncId} {fn:Func} {c:Code} (hf:P.funcs[f]? = some fn) (hb:fn.body = some c) (hn:(fn.name == "runtime.NumGoroutine") = false) {mc:am→Nat→List V→Option cM} {rs:List ResultVar} (hr:fn.results.toList = rs) {nt:Nat} (ht:fn.ntmps = nt)
    (h:∀ H nid args r,mc H nid args = some r→(∀ p∈r.pre,p)→∃ (nr:Bool) (os:List Nat) (fl:List Bool) (vs':List V),hY os = true∧zO os H = true∧dY os H nr fl args = true∧VLes (kR os H fl args) vs' ∧
      (Nat.ble vs'.length nt&&Nat.ble nt 1000000) = true∧ar P nt (aA c) (eo P rs fun σ v=>∃ m,Left os nid H nr r m σ v) { tm:=gk vs' 0++pQ (i6 H os 0 os),hp:=i6 H os 0 os,nx:=os.length }):bR P f (.mut mc):=by
  subst hr ht
  intro E w H0 nid xs args r hH0 hfn hx hmc hp
  have hH:=GX hH0 (dE H0 args)
  generalize hHe:eH (dE H0 args) H0 = H at hmc hH
  obtain ⟨nr,os,fl,vs',h1,h2,h3,h4,h5,h6⟩:=h H nid args r hmc hp
  rw [Bool.and_eq_true] at h5
  have hos:∀ o∈os, ∃ b,am.get H o = some b:=by
    intro o ho
    have:=List.all_eq_true.1 h2 o ho
    cases hg:am.get H o with
    | none=>rw [hg] at this; cases this
    | some b=>exact ⟨b,rfl⟩
  have hx':=(I2 (os:=os) (nr:=nr) hH fl xs args hx h3).le h4
  obtain ⟨gh,hgh,hsim⟩:=Yb (N:=fn.ntmps) hH h1 h2 hx' (Nat.ble_eq.mp h5.1) (Nat.ble_eq.mp h5.2)
  refine .inl ⟨vz hf hb hn _ _, ?_⟩
  refine calls_of_wp hf hb (wp_mono ((aC.ofItems c h6).ok _ _ _ _ hsim) ?_)
  rintro e a' w' ⟨σ',E',hk,hs'⟩
  have key:(match kY P σ' fn.results.toList with | some v=>∃ m,Left os nid H nr r m σ' v | none=>False)→a'.defers = []∧∃ v,(results fn a'.tmps).run P w' = .ok v w'∧∃ v',Ending.returned v = .returned v'∧∃ E'',gn E w H0 nid r E'' w' v':=by
    intro hk
    split at hk
    · next v hv =>
      obtain ⟨m,hl⟩:=hk
      obtain ⟨u,g1,g2⟩:=H7 hs' hv
      exact ⟨hs'.defers,u,g1,u,rfl,_,Vc hH0 hH hfn h1 hos hgh hs' g2 hl⟩
    · exact hk.elim
  cases e with
  | normal=>exact key hk
  | ret=>exact key hk
  | exit id=>exact hk.elim
  | goto l=>exact hk.elim
  | panic ch=>exact hk.elim
  | outgrown=>exact hk.elim
end
end Go.Ax
namespace Go.Ax
open Go.RowKit
def oJ (H:am):List Bool→List V→List V
  | _,[]=>[]
  | b :: fl,v :: r=>(bif b then v else v.view H) :: oJ H fl r
  | [],v :: r=>v.view H :: oJ H [] r
def pB (os:List Nat):List Bool→List V→List V
  | _,[]=>[]
  | b :: fl,v :: r=>(bif b then v.ren os else v) :: pB os fl r
  | [],v :: r=>v :: pB os [] r
theorem qL (os:List Nat) (H:am):∀ (fl:List Bool) (vs:List V),kR os H fl vs = pB os fl (oJ H fl vs)
  | [],[]=>rfl
  | _ :: _,[]=>rfl
  | true :: fl,v :: r=>by simp [kR,oJ,pB,qL os H fl r]
  | false :: fl,v :: r=>by simp [kR,oJ,pB,qL os H fl r]
  | [],v :: r=>by simp [kR,oJ,pB,qL os H [] r]
theorem IG (o:Nat):Nat.beq o o = true:=by simp
theorem OX (o k i n:Nat):V.ren [o] (.row o k i n) = .row 0 k i n:=by
  rw [V.ren]
  simp [pk]
def orM (m m':am→Nat→List V→Option cM):am→Nat→List V→Option cM:=fun H nid args=>match m H nid args with | some r=>some r | none=>m' H nid args
theorem bR.or {P:Program} {f:FuncId} {m m':am→Nat→List V→Option cM} (h:bR P f (.mut m)) (h':bR P f (.mut m')):bR P f (.mut (orM m m')):=by
  intro E w H nid xs args r h1 h2 h3 h4 h5
  unfold orM at h4
  split at h4
  · next r' hr=>cases h4; exact h E w H nid xs args _ h1 h2 h3 hr h5
  · exact h' E w H nid xs args r h1 h2 h3 h4 h5
section
variable {P:Program} {σ:St} {H:am} {nid:Nat} {nr:Bool}
theorem dv.hp {tm:List (Nat × bz)} {H H':am} {nx:Nat} (h:cC H H'):dv { tm:=tm,hp:=H,nx:=nx } { tm:=tm,hp:=H',nx:=nx }:=by
  refine ⟨fun N B E a w hs=>⟨E,hs.size,hs.small,hs.defers,hs.live,⟨fun o ob ho=>?_,hs.heap.inj,hs.heap.sep,hs.heap.lt,hs.heap.oklt⟩,hs.slots,hs.base,hs.own,hs.okold⟩⟩
  obtain ⟨b,g1,g2⟩:=IZ h o ob ho
  obtain ⟨l1,l2⟩:=hs.heap.at_ o b g1
  exact ⟨l1,l2.le g2⟩
theorem OL {o q k n t:Nat} {el el':Nat→List D} {p:List Prop} (hg:am.get σ.hp q = some (.row t k n el)) (he:∀ i,i < n→el i = el' i) (hs:nr = true∨∀ i,i < n→∀ d∈el i,d.scal = true) :
    Left [o] nid H nr { pre:=p,val:=.row o k 0 n,eff:=[(o,some (.row t k n el'))],kill:=[o] } [(q,o)] σ (.row q k 0 n) where
  inj:=fun a b c h1 h2=>by simp at h1 h2; omega
  fn:=fun a b c h1 h2=>by simp at h1 h2; omega
  to:=fun a b h=>by simp at h; simp [h.2]
  val:=by
    rw [V.mp]
    simp [jW]
    exact VLe.rfl' _
  vrefs:=fun a h=>by simp [V.refs] at h; simp [h]
  vrows:=by simp [V.rrefs,hg,qq]
  vsc:=.inr rfl
  has:=fun a b h=>by simp at h; obtain ⟨rfl,rfl⟩:=h; exact ⟨_,hg⟩
  obs:=fun a b h=>by
    rw [am.get_cons] at h
    split at h
    · next e =>
      subst e; cases h
      exact ⟨q,_,by simp,hg,⟨rfl,rfl,rfl,fun i hi=>.of_eq (he i hi)⟩,fun p hp=>absurd hp (by simp [nL]),rfl,hs⟩
    · simp [am.get] at h
  all:=fun a h=>by simp at h; simp [h,hT]
  kill:=fun a h=>h
  keep:=fun i a h=>by
    have:=List.mem_of_getElem? h
    exact .inl this
theorem PR {q k n t:Nat} {el el':Nat→List D} {p:List Prop} (hg:am.get σ.hp q = some (.row t k n el)) (he:∀ i,i < n→el i = el' i) (hs:nr = true∨∀ i,i < n→∀ d∈el i,d.scal = true) :
    Left [] nid H nr { pre:=p,val:=.row nid k 0 n,eff:=[(nid,some (.row t k n el'))],kill:=[] } [(q,nid)] σ (.row q k 0 n) where
  inj:=fun a b c h1 h2=>by simp at h1 h2; omega
  fn:=fun a b c h1 h2=>by simp at h1 h2; omega
  to:=fun a b h=>by simp at h; simp [h.2]
  val:=by
    rw [V.mp]
    simp [jW]
    exact VLe.rfl' _
  vrefs:=fun a h=>by simp [V.refs] at h; simp [h]
  vrows:=by simp [V.rrefs,hg,qq]
  vsc:=.inr rfl
  has:=fun a b h=>by simp at h; obtain ⟨rfl,rfl⟩:=h; exact ⟨_,hg⟩
  obs:=fun a b h=>by
    rw [am.get_cons] at h
    split at h
    · next e =>
      subst e; cases h
      exact ⟨q,_,by simp,hg,⟨rfl,rfl,rfl,fun i hi=>.of_eq (he i hi)⟩,fun p hp=>absurd hp (by simp [nL]),rfl,hs⟩
    · simp [am.get] at h
  all:=fun a h=>by simp at h
  kill:=fun a h=>by simp at h
  keep:=fun i a h=>by simp at h
mutual
theorem mp_norefs (f:Nat→Nat):∀ v:V,v.refs = []→v.mp f = v
  | .c _,_=>rfl
  | .agg vs,h=>by rw [V.mp,mps_norefs f vs (by rw [V.refs] at h; exact h)]
  | .tup vs,h=>by rw [V.mp,mps_norefs f vs (by rw [V.refs] at h; exact h)]
  | .ptr ..,h=>by simp [V.refs] at h
  | .row ..,h=>by simp [V.refs] at h
  | .dptr ..,_=>rfl
  | .fn _ vs,h=>by rw [V.mp,mps_norefs f vs (by rw [V.refs] at h; exact h)]
theorem mps_norefs (f:Nat→Nat):∀ vs:List V,V.refss vs = []→V.mps f vs = vs
  | [],_=>rfl
  | v :: r,h=>by
    rw [V.refss,List.append_eq_nil_iff] at h
    rw [V.mps,mp_norefs f v h.1,mps_norefs f r h.2]
end
mutual
theorem ren_norefs (os:List Nat):∀ v:V,v.refs = []→v.ren os = v
  | .c _,_=>rfl
  | .agg vs,h=>by rw [V.ren,rens_norefs os vs (by rw [V.refs] at h; exact h)]
  | .tup vs,h=>by rw [V.ren,rens_norefs os vs (by rw [V.refs] at h; exact h)]
  | .ptr ..,h=>by simp [V.refs] at h
  | .row ..,h=>by simp [V.refs] at h
  | .dptr ..,_=>rfl
  | .fn _ vs,h=>by rw [V.ren,rens_norefs os vs (by rw [V.refs] at h; exact h)]
theorem rens_norefs (os:List Nat):∀ vs:List V,V.refss vs = []→V.rens os vs = vs
  | [],_=>rfl
  | v :: r,h=>by
    rw [V.refss,List.append_eq_nil_iff] at h
    rw [V.rens,ren_norefs os v h.1,rens_norefs os r h.2]
end
theorem MW {v:V} (h:v.refs = []):v.rrefs = []:=List.eq_nil_iff_forall_not_mem.2 fun q hq=>by
  have:=rrefs_refs v q hq
  rw [h] at this; simp at this
theorem Zx {o:Nat} {b:Ob} (h:am.get H o = some b):i6 H [o] 0 [o] = [(0,some (b.ren [o]))]:=by
  simp [i6,h]
theorem MD {f:FuncId} {fn:Func} {c:Code} (hf:P.funcs[f]? = some fn) (hb:fn.body = some c) (hn:(fn.name == "runtime.NumGoroutine") = false) {mc:am→Nat→List V→Option cM} {rs:List ResultVar} (hr:fn.results.toList = rs) {nt:Nat} (ht:fn.ntmps = nt)
    (h:∀ H nid args r,mc H nid args = some r→(∀ p∈r.pre,p) →
      (∃ (nr:Bool) (fl:List Bool) (o t k n:Nat) (el:Nat→List D) (vs':List V),am.get H o = some (.row t k n el)∧dY [o] H nr fl args = true∧VLes (pB [o] fl (oJ H fl args)) vs'∧(Nat.ble vs'.length nt&&Nat.ble nt 1000000) = true ∧
        ar P nt (aA c) (eo P rs fun σ v=>∃ m,Left [o] nid H nr r m σ v) { tm:=gk vs' 0++[(1000000,⟨[], .row 0 k 0 n⟩)],hp:=[(0,some (.row t k n el))],nx:=1 }) ∨
      (∃ (nr:Bool) (fl:List Bool) (vs':List V),dY [] H nr fl args = true∧VLes (pB [] fl (oJ H fl args)) vs'∧(Nat.ble vs'.length nt&&Nat.ble nt 1000000) = true ∧
        ar P nt (aA c) (eo P rs fun σ v=>∃ m,Left [] nid H nr r m σ v) { tm:=gk vs' 0++[],hp:=[],nx:=0 })):bR P f (.mut mc):=by
  refine FL hf hb hn hr ht fun H nid args r h1 h2=>?_
  rcases h H nid args r h1 h2 with ⟨nr,fl,o,t,k,n,el,vs',g1,g2,g3,g4,g5⟩ | ⟨nr,fl,vs',g2,g3,g4,g5⟩
  · refine ⟨nr,[o],fl,vs',rfl,by simp [zO,g1,FX],g2,by rw [qL]; exact g3,g4, ?_⟩
    rw [Zx g1]
    exact g5
  · exact ⟨nr,[],fl,vs',rfl,rfl,g2,by rw [qL]; exact g3,g4,g5⟩
theorem eo.intro {rs:List ResultVar} {Q:St→V→Prop} {v:V} (hv:kY P σ rs = some v) (h:Q σ v):eo P rs Q .ret σ:=by
  show (match kY P σ rs with | some v=>Q σ v | none=>False)
  rw [hv]; exact h
end
end Go.Ax
namespace Go.Ax
open Go.RowKit
section
variable {P:Program} {w:World} {ok:Nat→Prop}
end
end Go.Ax
namespace Go.Ax
open Go.RowKit
abbrev KT:=Exit→St→Prop
abbrev rE {α:Type} (R:α→St) (K:KT):α→Prop:=fun x=>K .ret (R x)
abbrev ZQ {α:Type} (R:α→St) (K:KT):α→Prop:=fun x=>K .normal (R x)∧K .ret (R x)
abbrev nE {S R:Type} (emb:S→St) (E:R→KT→Prop) (K:KT):S ⊕ R→Prop:=fun x=>cl emb E x K
def V.ag (l:List D):V:=.agg (l.map .c)
def dq (k:Nat) (l:List D):Nat→List D:=fun i=>List.take k (List.drop (i*k) l)
theorem VLe.r {v:V}:VLe v v:=.rfl' v
theorem lf {K:KT} {e:Exit} {σ σ':St} (hc:K e σ') (he:dv σ σ'):wK K e σ:=⟨σ',he,hc⟩
theorem lg {K:KT} {e:Exit} {σ σ':St} (he:dv σ σ') (hc:K e σ'):wK K e σ:=⟨σ',he,hc⟩
theorem l0 {K:KT} {e:Exit} {σ:St} (hc:K e σ):wK K e σ:=⟨σ, .refl σ,hc⟩
section
variable {T:Type} {enc:T→List D} {z:T} {n k:Nat} {el:Nat→List D} {l:List T} {tm r:List (Nat × bz)} {H R:am} {t o:Nat} {σ σ':St}
theorem bM.q {v:V} (h:bv tm t = some ⟨[],v⟩) (hr:bM tm r):bM tm ((t,⟨[],v⟩) :: r):=.cons h (.rfl' v) hr
theorem bM.qsO {tm:List (Nat × bz)}:∀ {l r:List (Nat × bz)},(∀ x∈l,bv tm x.1 = some x.2)→(∀ x∈l,x.2.ch = [])→bM tm r→bM tm (l++r)
  | [],_,_,_,hr=>hr
  | (t,⟨ch,v⟩) :: l,r,h,h',hr=>by
    have e:ch = []:=h' _ (List.mem_cons_self ..)
    subst e
    exact bM.q (h _ (List.mem_cons_self ..)) (bM.qsO (fun x hx=>h x (List.mem_cons_of_mem _ hx)) (fun x hx=>h' x (List.mem_cons_of_mem _ hx)) hr)
def NX (tm:List (Nat × bz)):List (Nat × bz)→List (Option bz)
  | []=>[]
  | x :: r=>bv tm x.1 :: NX tm r
def N6:List (Nat × bz)→List (Option bz)
  | []=>[]
  | x :: r=>some x.2 :: N6 r
def TX:List (Nat × bz)→Bool
  | []=>true
  | x :: r=>x.2.ch.isEmpty&&TX r
theorem OZ {tm:List (Nat × bz)}:∀ {l:List (Nat × bz)},NX tm l = N6 l→∀ x∈l,bv tm x.1 = some x.2
  | y :: l,h,x,hx=>by
    unfold NX N6 at h
    obtain ⟨h1,h2⟩:=List.cons.inj h
    rcases List.mem_cons.1 hx with rfl | hx
    · exact h1
    · exact OZ h2 x hx
theorem Q6:∀ {l:List (Nat × bz)},TX l = true→∀ x∈l,x.2.ch = []
  | y :: l,h,x,hx=>by
    unfold TX at h
    rw [Bool.and_eq_true] at h
    rcases List.mem_cons.1 hx with rfl | hx
    · exact List.isEmpty_iff.1 h.1
    · exact Q6 h.2 x hx
theorem bM.qs (n:Nat) {tm l:List (Nat × bz)} (hr:bM tm (l.drop n)) (h:NX tm (l.take n) = N6 (l.take n):=by kernel_rfl) (h':TX (l.take n) = true:=by kernel_rfl):bM tm l:=by
  rw [← List.take_append_drop n l]
  exact bM.qsO (OZ h) (Q6 h') hr
theorem dv.cn (ts:List Nat) (h:nY ts σ = true:=by kernel_rfl) (e:Go.Ax.canonN ts σ = σ':=by kernel_rfl):dv σ σ':=e ▸ dv.canonN ts h
theorem ac.b:ac enc z l.length (aV enc z l) l:=.ls enc z l
theorem ac.l1 (k:Nat) (x:T) (h:dq k (enc x) 0 = enc x):ac enc z 1 (dq k (enc x)) [x]:=.lits (l:=[x]) (show N2 enc (dq k (enc x)) 0 [x] from ⟨.of_eq h,trivial⟩)
end
section
variable {P:Program} {C:FuncId→Option CC} {N:Nat} {c:Code} {K:KT} {σ:St}
theorem ar.en {l:List Code} {σ':St} (h:ar P N l K σ') (he:dv σ σ'):ar P N l K σ:=.ent he h
theorem zG.nf {ts:List Nat} {X:KT→Prop} (h:∀ K,ev P C N c (cN ts K) σ = X K) (x:X K):zG P C N c (cN ts K) σ:=.of (h K) x
end
structure AC (T:Type) where
  dec:V→Option (List Prop × T)
  can:T→V
  ok:∀ v p x,dec v = some (p,x)→(∀ q∈p,q)→VLe v (can x)
def aI (k:IntKind):AC Int where
  dec | .c (.lit (.int k' n))=>if k' = k then some ([],n) else none
      | _=>none
  can n:=.c (.lit (.int k n))
  ok v p x h _:=by
    split at h
    · next k' n =>
      split at h
      · next e=>cases h; subst e; exact .r
      · cases h
    · cases h
def aB:AC Bool where
  dec | .c (.lit (.bool b))=>some ([],b)
      | _=>none
  can b:=bl b
  ok v p x h _:=by
    split at h
    · cases h; exact .r
    · cases h
def aS:AC ByteArray where
  dec | .c (.lit (.string b))=>some ([],b)
      | _=>none
  can b:=aX b
  ok v p x h _:=by
    split at h
    · cases h; exact .r
    · cases h
def aL {T:Type} (enc:T→List D) (dec:List D→T) (z:T) (k:Nat):AC (List T) where
  dec | .c (.sl k' n el)=>some ([aJ enc dec k k' n el],lst dec n el)
      | _=>none
  can l:=.c (.sl k l.length (aV enc z l))
  ok v p x h hp:=by
    split at h
    · next k' n el =>
      cases h
      have g:=hp _ (List.mem_singleton.2 rfl)
      exact VLe.slk g.1 (ac.of_ok g)
    · cases h
def Mw {T:Type} (dec:List D→T):D→List T
  | .sl _ n el=>lst dec n el
  | _=>[]
theorem yY {T:Type} {enc:T→List D} {dec:List D→T} {z:T} (hd:ef enc dec) {d:D} {k:Nat} {l:List T} (h:eN d (.sl k l.length (aV enc z l))):Mw dec d = l:=by
  rcases h.nil_or with ⟨rfl,h0⟩ | ⟨k',el',rfl,h1⟩
  · exact (List.eq_nil_of_length_eq_zero h0).symm
  · exact ac.lst (z:=z) hd ⟨rfl,h1⟩
theorem be.cons_inv {ds cs:List D} {c:D} (h:be ds (c :: cs)):∃ d ds',ds = d :: ds'∧eN d c∧be ds' cs:=by
  cases ds with
  | nil=>have:=h.1; simp at this
  | cons d ds=>exact ⟨d,ds,rfl,h.2 0 d c rfl rfl,by have:=h.1; simpa using this,fun j a b ha hb=>h.2 (j+1) a b (by simpa using ha) (by simpa using hb)⟩
theorem be.nil_inv {ds:List D} (h:be ds []):ds = []:=List.eq_nil_of_length_eq_zero h.1
def TZ:List V→Option (List D)
  | []=>some []
  | .c d :: r=>match TZ r with | some ds=>some (d :: ds) | none=>none
  | _ :: _=>none
theorem RD:∀ {cs:List V} {ds:List D},TZ cs = some ds→cs = ds.map .c
  | [],ds,h=>by cases h; rfl
  | .c d :: r,ds,h=>by
    unfold TZ at h
    split at h
    · next ds' h'=>cases h; rw [RD h']; rfl
    · cases h
  | .agg _ :: _,_,h=>by cases h
  | .tup _ :: _,_,h=>by cases h
  | .ptr .. :: _,_,h=>by cases h
  | .row .. :: _,_,h=>by cases h
  | .dptr .. :: _,_,h=>by cases h
  | .fn .. :: _,_,h=>by cases h
def aG {T:Type} (okT:List D→Bool) (enc:T→List D) (dec:List D→T) (h:∀ ds,okT ds = true→enc (dec ds) = ds):AC T where
  dec | .agg cs=>(match TZ cs with | some ds=>bif okT ds then some ([],dec ds) else none | none=>none)
      | _=>none
  can x:=V.ag (enc x)
  ok v p x hd _:=by
    split at hd
    · next cs =>
      split at hd
      · next ds hds =>
        cases hk:okT ds with
        | false=>rw [hk] at hd; cases hd
        | true =>
          rw [hk] at hd
          cases hd
          rw [RD hds]
          show VLe _ (.agg ((enc (dec ds)).map .c))
          rw [h ds hk]
          exact .r
      · cases hd
    · cases hd
structure apu (P:Program) (f:FuncId) (fn:Func) (c:Code) (rs:List ResultVar) (nt:Nat):Prop where
  hf:P.funcs[f]? = some fn
  hb:fn.body = some c
  hn:(fn.name == "runtime.NumGoroutine") = false
  hr:fn.results.toList = rs
  ht:fn.ntmps = nt
section
variable {P:Program} {f:FuncId} {R:Type}
theorem im {p q:List Prop} (h:∀ x∈p++q,x):(∀ x∈p,x)∧∀ x∈q,x:=⟨fun x hx=>h x (List.mem_append.2 (.inl hx)),fun x hx=>h x (List.mem_append.2 (.inr hx))⟩
theorem BD {n:Nat} (fn:Func) (c:Code) (rs:List ResultVar) (nt:Nat) {con:bU} (h:∀ vs p out,con vs = some (p,out)→(∀ q∈p,q)→∃ vs',vs'.length = n∧VLes vs vs'∧ar P nt (aA c) (eC P rs (dN out)) { tm:=gk vs' 0,hp:=[],nx:=0 })
    (hf:P.funcs[f]? = some fn) (hb:fn.body = some c) (hn:(fn.name == "runtime.NumGoroutine") = false) (hr:fn.results.toList = rs) (ht:fn.ntmps = nt) (hl:(Nat.ble n nt&&Nat.ble nt 1000000) = true):bc P f con :=
  nT hf hb hn hr ht fun vs p out h1 h2=>by
    obtain ⟨vs',h3,h4,h5⟩:=h vs p out h1 h2
    exact ⟨vs',h4,by rw [h3]; exact hl,h5⟩
def Qk (f0:Option R) (z:R) (out:R→bK):bU
  | []=>some ([f0.isSome = true],out (f0.getD z))
  | _=>none
theorem Po {f0:Option R} {z:R} {out:R→bK} (fn:Func) (c:Code) (rs:List ResultVar) (nt:Nat) (run:∀ y,f0 = some y→ar P nt (aA c) (eC P rs (dN (out y))) { tm:=[],hp:=[],nx:=0 })
    (hf:P.funcs[f]? = some fn:=by kernel_rfl) (hb:fn.body = some c:=by kernel_rfl) (hn:(fn.name == "runtime.NumGoroutine") = false:=by kernel_rfl) (hr:fn.results.toList = rs:=by kernel_rfl) (ht:fn.ntmps = nt:=by kernel_rfl) (hl:(Nat.ble 0 nt&&Nat.ble nt 1000000) = true:=by kernel_rfl):bc P f (Qk f0 z out) :=
  BD fn c rs nt (fun vs p o h hp=>by
    unfold Qk at h
    split at h
    · cases h
      obtain ⟨y,hy⟩:=Option.isSome_iff_exists.1 (hp _ (List.mem_singleton.2 rfl))
      rw [hy]
      exact ⟨[],rfl,VLes.nil,run y hy⟩
    · cases h) hf hb hn hr ht hl
def dI {A0:Type} (a0:AC A0) (f0:A0→Option R) (z:R) (out:R→bK):bU
  | [x0]=>(match a0.dec x0 with
    | some (p0,u0)=>some (p0++[(f0 u0).isSome = true],out ((f0 u0).getD z))
    | _=>none)
  | _=>none
theorem cD {A0:Type} {a0:AC A0} {f0:A0→Option R} {z:R} {out:R→bK} (fn:Func) (c:Code) (rs:List ResultVar) (nt:Nat) (run:∀ u0 y,f0 u0 = some y→ar P nt (aA c) (eC P rs (dN (out y))) { tm:=gk [a0.can u0] 0,hp:=[],nx:=0 })
    (hf:P.funcs[f]? = some fn:=by kernel_rfl) (hb:fn.body = some c:=by kernel_rfl) (hn:(fn.name == "runtime.NumGoroutine") = false:=by kernel_rfl) (hr:fn.results.toList = rs:=by kernel_rfl) (ht:fn.ntmps = nt:=by kernel_rfl) (hl:(Nat.ble 1 nt&&Nat.ble nt 1000000) = true:=by kernel_rfl):bc P f (dI a0 f0 z out) :=
  BD fn c rs nt (fun vs p o h hp=>by
    unfold dI at h
    split at h
    · split at h
      · next p0 u0 e0 =>
        cases h
        obtain ⟨h0,hp⟩:=im hp
        obtain ⟨y,hy⟩:=Option.isSome_iff_exists.1 (hp _ (List.mem_singleton.2 rfl))
        rw [hy]
        exact ⟨[a0.can u0],rfl,(VLes.cons (a0.ok _ _ _ e0 h0) VLes.nil),run u0 y hy⟩
      · cases h
    · cases h) hf hb hn hr ht hl
def fH {A0 A1:Type} (a0:AC A0) (a1:AC A1) (f0:A0→A1→Option R) (z:R) (out:R→bK):bU
  | [x0,x1]=>(match a0.dec x0,a1.dec x1 with
    | some (p0,u0),some (p1,u1)=>some (p0++(p1++[(f0 u0 u1).isSome = true]),out ((f0 u0 u1).getD z))
    | _,_=>none)
  | _=>none
theorem dA {A0 A1:Type} {a0:AC A0} {a1:AC A1} {f0:A0→A1→Option R} {z:R} {out:R→bK} (fn:Func) (c:Code) (rs:List ResultVar) (nt:Nat) (run:∀ u0 u1 y,f0 u0 u1 = some y→ar P nt (aA c) (eC P rs (dN (out y))) { tm:=gk [a0.can u0,a1.can u1] 0,hp:=[],nx:=0 })
    (hf:P.funcs[f]? = some fn:=by kernel_rfl) (hb:fn.body = some c:=by kernel_rfl) (hn:(fn.name == "runtime.NumGoroutine") = false:=by kernel_rfl) (hr:fn.results.toList = rs:=by kernel_rfl) (ht:fn.ntmps = nt:=by kernel_rfl) (hl:(Nat.ble 2 nt&&Nat.ble nt 1000000) = true:=by kernel_rfl):bc P f (fH a0 a1 f0 z out) :=
  BD fn c rs nt (fun vs p o h hp=>by
    unfold fH at h
    split at h
    · split at h
      · next p0 u0 p1 u1 e0 e1 =>
        cases h
        obtain ⟨h0,hp⟩:=im hp
        obtain ⟨h1,hp⟩:=im hp
        obtain ⟨y,hy⟩:=Option.isSome_iff_exists.1 (hp _ (List.mem_singleton.2 rfl))
        rw [hy]
        exact ⟨[a0.can u0,a1.can u1],rfl,(VLes.cons (a0.ok _ _ _ e0 h0) (VLes.cons (a1.ok _ _ _ e1 h1) VLes.nil)),run u0 u1 y hy⟩
      · cases h
    · cases h) hf hb hn hr ht hl
def yL {A0 A1 A2:Type} (a0:AC A0) (a1:AC A1) (a2:AC A2) (f0:A0→A1→A2→Option R) (z:R) (out:R→bK):bU
  | [x0,x1,x2]=>(match a0.dec x0,a1.dec x1,a2.dec x2 with
    | some (p0,u0),some (p1,u1),some (p2,u2)=>some (p0++(p1++(p2++[(f0 u0 u1 u2).isSome = true])),out ((f0 u0 u1 u2).getD z))
    | _,_,_=>none)
  | _=>none
theorem sK {A0 A1 A2:Type} {a0:AC A0} {a1:AC A1} {a2:AC A2} {f0:A0→A1→A2→Option R} {z:R} {out:R→bK} (fn:Func) (c:Code) (rs:List ResultVar) (nt:Nat) (run:∀ u0 u1 u2 y,f0 u0 u1 u2 = some y→ar P nt (aA c) (eC P rs (dN (out y))) { tm:=gk [a0.can u0,a1.can u1,a2.can u2] 0,hp:=[],nx:=0 })
    (hf:P.funcs[f]? = some fn:=by kernel_rfl) (hb:fn.body = some c:=by kernel_rfl) (hn:(fn.name == "runtime.NumGoroutine") = false:=by kernel_rfl) (hr:fn.results.toList = rs:=by kernel_rfl) (ht:fn.ntmps = nt:=by kernel_rfl) (hl:(Nat.ble 3 nt&&Nat.ble nt 1000000) = true:=by kernel_rfl):bc P f (yL a0 a1 a2 f0 z out) :=
  BD fn c rs nt (fun vs p o h hp=>by
    unfold yL at h
    split at h
    · split at h
      · next p0 u0 p1 u1 p2 u2 e0 e1 e2 =>
        cases h
        obtain ⟨h0,hp⟩:=im hp
        obtain ⟨h1,hp⟩:=im hp
        obtain ⟨h2,hp⟩:=im hp
        obtain ⟨y,hy⟩:=Option.isSome_iff_exists.1 (hp _ (List.mem_singleton.2 rfl))
        rw [hy]
        exact ⟨[a0.can u0,a1.can u1,a2.can u2],rfl,(VLes.cons (a0.ok _ _ _ e0 h0) (VLes.cons (a1.ok _ _ _ e1 h1) (VLes.cons (a2.ok _ _ _ e2 h2) VLes.nil))),run u0 u1 u2 y hy⟩
      · cases h
    · cases h) hf hb hn hr ht hl
def Qm {A0 A1 A2 A3:Type} (a0:AC A0) (a1:AC A1) (a2:AC A2) (a3:AC A3) (f0:A0→A1→A2→A3→Option R) (z:R) (out:R→bK):bU
  | [x0,x1,x2,x3]=>(match a0.dec x0,a1.dec x1,a2.dec x2,a3.dec x3 with
    | some (p0,u0),some (p1,u1),some (p2,u2),some (p3,u3)=>some (p0++(p1++(p2++(p3++[(f0 u0 u1 u2 u3).isSome = true]))),out ((f0 u0 u1 u2 u3).getD z))
    | _,_,_,_=>none)
  | _=>none
theorem OS {A0 A1 A2 A3:Type} {a0:AC A0} {a1:AC A1} {a2:AC A2} {a3:AC A3} {f0:A0→A1→A2→A3→Option R} {z:R} {out:R→bK} (fn:Func) (c:Code) (rs:List ResultVar) (nt:Nat) (run:∀ u0 u1 u2 u3 y,f0 u0 u1 u2 u3 = some y→ar P nt (aA c) (eC P rs (dN (out y))) { tm:=gk [a0.can u0,a1.can u1,a2.can u2,a3.can u3] 0,hp:=[],nx:=0 })
    (hf:P.funcs[f]? = some fn:=by kernel_rfl) (hb:fn.body = some c:=by kernel_rfl) (hn:(fn.name == "runtime.NumGoroutine") = false:=by kernel_rfl) (hr:fn.results.toList = rs:=by kernel_rfl) (ht:fn.ntmps = nt:=by kernel_rfl) (hl:(Nat.ble 4 nt&&Nat.ble nt 1000000) = true:=by kernel_rfl):bc P f (Qm a0 a1 a2 a3 f0 z out) :=
  BD fn c rs nt (fun vs p o h hp=>by
    unfold Qm at h
    split at h
    · split at h
      · next p0 u0 p1 u1 p2 u2 p3 u3 e0 e1 e2 e3 =>
        cases h
        obtain ⟨h0,hp⟩:=im hp
        obtain ⟨h1,hp⟩:=im hp
        obtain ⟨h2,hp⟩:=im hp
        obtain ⟨h3,hp⟩:=im hp
        obtain ⟨y,hy⟩:=Option.isSome_iff_exists.1 (hp _ (List.mem_singleton.2 rfl))
        rw [hy]
        exact ⟨[a0.can u0,a1.can u1,a2.can u2,a3.can u3],rfl,(VLes.cons (a0.ok _ _ _ e0 h0) (VLes.cons (a1.ok _ _ _ e1 h1) (VLes.cons (a2.ok _ _ _ e2 h2) (VLes.cons (a3.ok _ _ _ e3 h3) VLes.nil)))),run u0 u1 u2 u3 y hy⟩
      · cases h
    · cases h) hf hb hn hr ht hl
def XU {A0 A1 A2 A3 A4:Type} (a0:AC A0) (a1:AC A1) (a2:AC A2) (a3:AC A3) (a4:AC A4) (f0:A0→A1→A2→A3→A4→Option R) (z:R) (out:R→bK):bU
  | [x0,x1,x2,x3,x4]=>(match a0.dec x0,a1.dec x1,a2.dec x2,a3.dec x3,a4.dec x4 with
    | some (p0,u0),some (p1,u1),some (p2,u2),some (p3,u3),some (p4,u4)=>some (p0++(p1++(p2++(p3++(p4++[(f0 u0 u1 u2 u3 u4).isSome = true])))),out ((f0 u0 u1 u2 u3 u4).getD z))
    | _,_,_,_,_=>none)
  | _=>none
theorem akO {A0 A1 A2 A3 A4:Type} {a0:AC A0} {a1:AC A1} {a2:AC A2} {a3:AC A3} {a4:AC A4} {f0:A0→A1→A2→A3→A4→Option R} {z:R} {out:R→bK} (fn:Func) (c:Code) (rs:List ResultVar) (nt:Nat) (run:∀ u0 u1 u2 u3 u4 y,f0 u0 u1 u2 u3 u4 = some y→ar P nt (aA c) (eC P rs (dN (out y))) { tm:=gk [a0.can u0,a1.can u1,a2.can u2,a3.can u3,a4.can u4] 0,hp:=[],nx:=0 })
    (hf:P.funcs[f]? = some fn:=by kernel_rfl) (hb:fn.body = some c:=by kernel_rfl) (hn:(fn.name == "runtime.NumGoroutine") = false:=by kernel_rfl) (hr:fn.results.toList = rs:=by kernel_rfl) (ht:fn.ntmps = nt:=by kernel_rfl) (hl:(Nat.ble 5 nt&&Nat.ble nt 1000000) = true:=by kernel_rfl):bc P f (XU a0 a1 a2 a3 a4 f0 z out) :=
  BD fn c rs nt (fun vs p o h hp=>by
    unfold XU at h
    split at h
    · split at h
      · next p0 u0 p1 u1 p2 u2 p3 u3 p4 u4 e0 e1 e2 e3 e4 =>
        cases h
        obtain ⟨h0,hp⟩:=im hp
        obtain ⟨h1,hp⟩:=im hp
        obtain ⟨h2,hp⟩:=im hp
        obtain ⟨h3,hp⟩:=im hp
        obtain ⟨h4,hp⟩:=im hp
        obtain ⟨y,hy⟩:=Option.isSome_iff_exists.1 (hp _ (List.mem_singleton.2 rfl))
        rw [hy]
        exact ⟨[a0.can u0,a1.can u1,a2.can u2,a3.can u3,a4.can u4],rfl,(VLes.cons (a0.ok _ _ _ e0 h0) (VLes.cons (a1.ok _ _ _ e1 h1) (VLes.cons (a2.ok _ _ _ e2 h2) (VLes.cons (a3.ok _ _ _ e3 h3) (VLes.cons (a4.ok _ _ _ e4 h4) VLes.nil))))),run u0 u1 u2 u3 u4 y hy⟩
      · cases h
    · cases h) hf hb hn hr ht hl
end
structure FE (P:Program) where
  f:FuncId
  c:CC
  ok:bR P f c
def DV {P:Program}:List (FE P)→FuncId→Option CC
  | [],_=>none
  | e :: r,f=>bif Nat.beq e.f f then some e.c else DV r f
theorem IV {P:Program}:∀ (l:List (FE P)) (f:FuncId) (con:CC),DV l f = some con→bR P f con
  | [],_,_,h=>by cases h
  | e :: r,f,con,h=>by
    unfold DV at h
    cases hb:Nat.beq e.f f with
    | true =>
      rw [hb] at h
      cases h
      rw [← Nat.eq_of_beq_eq_true hb]
      exact e.ok
    | false =>
      rw [hb] at h
      exact IV r f con h
abbrev Ob.bx (l:List D):Ob:=.box (l.map .c)
theorem cz {P:Program} {rs:List ResultVar} {σ:St} {out:bK} (v:V) (h:dN out σ.hp v) (hv:kY P σ rs = some v:=by kernel_rfl):eC P rs (dN out) .ret σ:=eC.intro hv h
abbrev un (t:Nat):Nat × bz:=sv t (.c .unk)
section
variable {P:Program} {N:Nat} {c:Code} {K:KT} {σ:St}
theorem zG.nx {C:FuncId→Option CC} {ts:List Nat} (X:KT→Prop) (x:X K) (h:∀ K,ev P C N c (cN ts K) σ = X K:=by intro K; kernel_rfl):zG P C N c (cN ts K) σ:=.of (h K) x
section
variable {C:FuncId→Option CC} {ts:List Nat} {T1 T2 T3 T4 T5 T6 T7 T8:Type} {a1 b1:T1} {a2 b2:T2} {a3 b3:T3} {a4 b4:T4} {a5 b5:T5} {a6 b6:T6} {a7 b7:T7} {a8 b8:T8}
theorem zG.nx1 (e1:a1 = b1) (X:T1→KT→Prop) (x:X b1 K) (h:∀ K,ev P C N c (cN ts K) σ = X a1 K:=by intro K; kernel_rfl):zG P C N c (cN ts K) σ:=.of (h K) (by subst e1; exact x)
theorem zG.nx2 (e1:a1 = b1) (e2:a2 = b2) (X:T1→T2→KT→Prop) (x:X b1 b2 K) (h:∀ K,ev P C N c (cN ts K) σ = X a1 a2 K:=by intro K; kernel_rfl):zG P C N c (cN ts K) σ:=.of (h K) (by subst e1; subst e2; exact x)
end
theorem ar.qD (hm:P.follows .mixedOrders = true) (fs:List (FE P)) (ts:List Nat) (a m b:Nat) {l:List Code}
    (h:zG P (DV fs) N (ofItems ((l.drop a).take m)) (cN ts (aH (ar P N (l.drop b) K) K)) σ) (e:a+m = b:=by rfl):ar P N (l.drop a) K σ:=.pieceD hm (IV fs) ts a m b e h
theorem ar.qE (hm:P.follows .mixedOrders = true) (fs:List (FE P)) (ts:List Nat) (a m:Nat) {l:List Code}
    (h:zG P (DV fs) N (ofItems ((l.drop a).take m)) (cN ts K) σ) (e:l.drop (a+m) = []:=by kernel_rfl):ar P N (l.drop a) K σ:=.pieceE hm (IV fs) ts a m e h
end
abbrev iK:KT→KT:=fun K=>K
def dK (P:Program) (N:Nat) (l:List Code) (b:Nat) (G:KT→KT):KT→KT:=fun K=>aH (ar P N (l.drop b) (G K)) (G K)
structure RT (T:Type) where
  enc:T→List D
  dec:List D→T
  z:T
  k:Nat
  ok:ef enc dec
def akE (y:Nat × bz):List (Nat × bz)→List (Nat × bz)
  | []=>[y]
  | x :: r=>bif Nat.blt x.1 y.1 then x :: akE y r else y :: x :: r
def Wk (a b:List (Nat × bz)):List (Nat × bz):=b.foldr akE a
abbrev St.more (σ:St) (us:List Nat) (ex:List (Nat × bz)):St:={ σ with tm:=Wk (Wk σ.tm ex) (us.map un) }
theorem lx {K:KT} {e:Exit} {σ:St} (ts us:List Nat) (ex:List (Nat × bz)) (hc:K e σ) (h:nY ts (σ.more us ex) = true:=by kernel_rfl) (h':Go.Ax.canonN ts (σ.more us ex) = σ:=by kernel_rfl):wK K e (σ.more us ex):=lg (.cn ts h h') hc
theorem lz {K:KT} {e:Exit} {σ:St} (hc:K e σ) (ts us:List Nat) (ex:List (Nat × bz)) (h:nY ts (σ.more us ex) = true:=by kernel_rfl) (h':Go.Ax.canonN ts (σ.more us ex) = σ:=by kernel_rfl):wK K e (σ.more us ex):=lg (.cn ts h h') hc
inductive PT (β:Type) (Q:KT→β→Prop) (F:KT→KT):Type 1
  | lf (o:Option β) (e:Exit) (σ:St) (h:∀ K,W o (Q K)→wK (F K) e σ):PT β Q F
  | bf (b:Bool) (s t:PT β Q F):PT β Q F
  | g1 (p:Prop) [Decidable p] (t:PT β Q F):PT β Q F
  | g2 (p q:Prop) [Decidable p] [Decidable q] (t:PT β Q F):PT β Q F
  | g3 (p q r:Prop) [Decidable p] [Decidable q] [Decidable r] (t:PT β Q F):PT β Q F
  | gc (n k:Nat) (t:PT β Q F):PT β Q F
  | tv (p:Prop) (h:p) (t:PT β Q F):PT β Q F
  | bd {γ:Type} (o:Option γ) (d:γ) (f:γ→PT β Q F):PT β Q F
  | ls {T:Type} {a b:List T} (h:a = b) (f:List T→PT β Q F):PT β Q F
  | lk {T:Type} (r:RT T) (l:List T) (f:List T→PT β Q F):PT β Q F
  | no:PT β Q F
theorem hh {β:Type} {Q:KT→β→Prop} {F:KT→KT} {o:Option β} {e:Exit} {σ:St} (h:∀ K,W o (Q K)→wK (F K) e σ):∀ K,W o (Q K)→wK (F K) e σ:=h
def PT.opt {β:Type} {Q:KT→β→Prop} {F:KT→KT}:PT β Q F→Option β
  | .lf o _ _ _=>o
  | .bf b s t=>bif b then s.opt else t.opt
  | @PT.g1 _ _ _ p _ t=>gd p t.opt
  | @PT.g2 _ _ _ p q _ _ t=>gd (p∧q) t.opt
  | @PT.g3 _ _ _ p q r _ _ _ t=>gd (p∧q∧r) t.opt
  | .gc n k t=>gd (AT n k) t.opt
  | .tv _ _ t=>t.opt
  | .bd o _ f=>o.bind fun y=>(f y).opt
  | @PT.ls _ _ _ _ _ b _ f=>(f b).opt
  | .lk _ l f=>(f l).opt
  | .no=>none
def PT.nf {β:Type} {Q:KT→β→Prop} {F:KT→KT}:PT β Q F→KT→Prop
  | .lf _ e σ _,K=>wK K e σ
  | .bf b s t,K=>bif b then s.nf K else t.nf K
  | @PT.g1 _ _ _ p _ t,K=>p∧t.nf K
  | @PT.g2 _ _ _ p q _ _ t,K=>p∧q∧t.nf K
  | @PT.g3 _ _ _ p q r _ _ _ t,K=>p∧q∧r∧t.nf K
  | .gc n k t,K=>n*k≤140737488355328∧n≤140737488355328∧t.nf K
  | .tv p _ t,K=>p∧t.nf K
  | .bd o d f,K=>o.isSome = true∧(f (o.getD d)).nf K
  | @PT.ls _ _ _ _ a _ _ f,K=>(f a).nf K
  | .lk r l f,K=>aJ r.enc r.dec r.k r.k l.length (aV r.enc r.z l)∧(f (lst r.dec l.length (aV r.enc r.z l))).nf K
  | .no,_=>False
theorem PT.ok {β:Type} {Q:KT→β→Prop} {F:KT→KT} {K:KT} (t:PT β Q F) (h:W t.opt (Q K)):t.nf (F K):=by
  induction t with
  | lf o e σ g=>exact g K h
  | bf b s t ih1 ih2=>cases b with | true=>exact ih1 h | false=>exact ih2 h
  | g1 p t ih=>exact w1 ih h
  | g2 p q t ih=>exact w2 ih h
  | g3 p q r t ih=>exact am9 h fun _=>ih
  | gc n k t ih=>exact (SF h fun hc x=>(⟨hc.1,hc.2,ih x⟩:n*k≤140737488355328∧n≤140737488355328∧t.nf (F K))).2
  | tv p hp t ih=>exact ⟨hp,ih h⟩
  | bd o d f ih=>exact wN d (ih _) h
  | ls e f ih=>subst e; exact ih _ h
  | lk r l f ih=>exact ⟨ac.ok r.ok (.ls _ _ _),by rw [ac.lst r.ok (.ls r.enc r.z l)]; exact ih _ h⟩
  | no=>exact h
theorem oT {β:Type} {Q:KT→β→Prop} {F:KT→KT}:(∀ o e σ h,(PT.lf o e σ h:PT β Q F).opt = o)∧(∀ b (s t:PT β Q F),(PT.bf b s t).opt = bif b then s.opt else t.opt) ∧
    (∀ (p:Prop) [Decidable p] (t:PT β Q F),(PT.g1 p t).opt = gd p t.opt)∧(∀ (p q:Prop) [Decidable p] [Decidable q] (t:PT β Q F),(PT.g2 p q t).opt = gd (p∧q) t.opt) ∧
    (∀ (p q r:Prop) [Decidable p] [Decidable q] [Decidable r] (t:PT β Q F),(PT.g3 p q r t).opt = gd (p∧q∧r) t.opt)∧(∀ n k (t:PT β Q F),(PT.gc n k t).opt = gd (AT n k) t.opt) ∧
    (∀ p (h:p) (t:PT β Q F),(PT.tv p h t).opt = t.opt)∧(∀ (γ:Type) (o:Option γ) d (f:γ→PT β Q F),(PT.bd o d f).opt = o.bind fun y=>(f y).opt) ∧
    (∀ (T:Type) (a b:List T) (h:a = b) (f:List T→PT β Q F),(PT.ls h f).opt = (f b).opt)∧(∀ (T:Type) (r:RT T) l (f:List T→PT β Q F),(PT.lk r l f).opt = (f l).opt)∧(PT.no:PT β Q F).opt = none :=
  ⟨fun _ _ _ _=>rfl,fun _ _ _=>rfl,fun _ _ _=>rfl,fun _ _ _ _ _=>rfl,fun _ _ _ _ _ _ _=>rfl,fun _ _ _=>rfl,fun _ _ _=>rfl,fun _ _ _ _=>rfl,fun _ _ _ _ _=>rfl,fun _ _ _ _=>rfl,rfl⟩
def Ax {β:Type} {Q:KT→β→Prop} {F:KT→KT} (P:Program) (N:Nat) (l:List Code) (a:Nat) (G:KT→KT) (t:PT β Q F) (σ:St):Prop:=∀ ⦃K⦄,W t.opt (Q K)→ar P N (l.drop a) (G K) σ
theorem Ax.tD {P:Program} {N:Nat} {l:List Code} {a b:Nat} {G:KT→KT} {β:Type} {Q:KT→β→Prop} {t:PT β Q (dK P N l b G)} {σ:St} (hm:P.follows .mixedOrders = true) (fs:List (FE P)) (ts:List Nat) (m:Nat)
    (hn:∀ K,ev P (DV fs) N (ofItems ((l.drop a).take m)) (cN ts K) σ = t.nf K:=by intro K; kernel_rfl) (e:a+m = b:=by rfl):Ax P N l a G t σ:=fun K h=>ar.qD hm fs ts a m b ⟨(hn (dK P N l b G K)).mpr (t.ok h)⟩ e
theorem Ax.tE {P:Program} {N:Nat} {l:List Code} {a:Nat} {G:KT→KT} {β:Type} {Q:KT→β→Prop} {t:PT β Q G} {σ:St} (hm:P.follows .mixedOrders = true) (fs:List (FE P)) (ts:List Nat) (m:Nat)
    (hn:∀ K,ev P (DV fs) N (ofItems ((l.drop a).take m)) (cN ts K) σ = t.nf K:=by intro K; kernel_rfl) (e:l.drop (a+m) = []:=by kernel_rfl):Ax P N l a G t σ:=fun K h=>ar.qE hm fs ts a m ⟨(hn (G K)).mpr (t.ok h)⟩ e
section
variable {T:Type} {enc:T→List D} {dec:List D→T} {z:T} {n k k0:Nat} {el:Nat→List D} {l:List T}
theorem lr (hd:ef enc dec) (h:ac enc z n el l):lst dec n el = l:=h.lst hd
theorem lb (hd:ef enc dec):lst dec l.length (aV enc z l) = l:=ac.lst hd (.ls enc z l)
theorem kb (hd:ef enc dec):aJ enc dec k k l.length (aV enc z l):=ac.ok hd (.ls enc z l)
end
end Go.Ax
