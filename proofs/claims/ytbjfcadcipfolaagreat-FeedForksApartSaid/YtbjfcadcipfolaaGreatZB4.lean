import Derived.Test.YtbjfcadcipfolaaGreatZB3
set_option linter.all false
/- A region that draws its order: whatever the order, it ends as the text's order ends. -/
namespace Go.Ax
open Go.RowKit
section
variable {P:Program} {N:Nat} {B:eL} {σ σ':St} {E:ar} {a:Act} {w:World} {C:FuncId→Option CC} {all:List Oper}
structure kB (σ σ':St):Prop where
  tm:∀ t,au σ.tm t = au σ'.tm t
  hp:∀ o,ab.get σ.hp o = ab.get σ'.hp o
theorem kB.refl (σ:St):kB σ σ:=⟨fun _=>rfl,fun _=>rfl⟩
theorem kB.symm (h:kB σ σ'):kB σ' σ:=⟨fun t=>(h.tm t).symm,fun o=>(h.hp o).symm⟩
theorem kB.trans {σ'':St} (h:kB σ σ') (h':kB σ' σ''):kB σ σ'':=⟨fun t=>(h.tm t).trans (h'.tm t),fun o=>(h.hp o).trans (h'.hp o)⟩
theorem kB.after (h:kB σ σ') (r:bj):kB (after σ r) (after σ' r) :=
 ⟨fun t=>by rw [fR,fR,h.tm t],fun o=>by rw [gf,gf,h.hp o]⟩
theorem kB.recOk (h:kB σ σ') {nid:Nat} {o:Oper} {rc:bj} (hr:eC P C N all σ nid o rc):eC P C N all σ' nid o rc∧holds σ'.tm rc.ch = holds σ.tm rc.ch :=
 hr.congr (fun t _=>(h.tm t).symm) ⟨fun o _=>h.hp o,fun _ _ _ _ q _=>h.hp q,fun _ _ _ _ _ _ q _=>h.hp q⟩
theorem rL (kl:List Nat):∀ cs:List V,cd kl (some (.box cs)) = some (.box (cs.map (V.killAll kl))):=by
 have hk:∀ (o:Nat) (cs:List V),V.kills o cs = cs.map (V.kill o):=by
  intro o cs
  induction cs with
  | nil=>rfl
  | cons v r ih=>rw [V.kills,ih];rfl
 induction kl with
 | nil=>intro cs;simp [cd,V.killAll]
 | cons o r ih =>
  intro cs
  rw [cd,kz,ih,hk,List.map_map]
  rfl
theorem rM (kl:List Nat) (e:TypeId) (t:Ty) (l:List t.T):cd kl (some (.row e t l)) = some (.row e t l):=by
 induction kl with
 | nil=>rfl
 | cons o r ih=>rw [cd];exact ih
theorem rK (kl:List Nat) (x:Obj):cd kl (some (.raw x)) = some (.raw x):=by
 induction kl with
 | nil=>rfl
 | cons o r ih=>rw [cd];exact ih
theorem rB (kl:List Nat) (t:TypeId) (kt vt:Ty) (ks:List kt.T) (vs:List vt.T):cd kl (some (.map t kt vt ks vs)) = some (.map t kt vt ks vs):=by
 induction kl with
 | nil=>rfl
 | cons o r ih=>rw [cd];exact ih
theorem pR (kl:List Nat) (s:Int) (l:List Int):∀ m:V,cd kl (some (.iter m s l)) = some (.iter (V.killAll kl m) s l):=by
 induction kl with
 | nil=>intro m;rfl
 | cons o r ih =>
  intro m
  rw [cd,kz,ih]
  rfl
theorem pV (kl:List Nat):cd kl none = none:=by
 induction kl with
 | nil=>rfl
 | cons o r ih=>rw [cd];exact ih
theorem ou {kl:List Nat} {b:Option Ob} (h:∀ q∈mR b,q ∉ kl):cd kl b = b:=by
 cases b with
 | none=>exact pV kl
 | some b =>
  cases b with
  | row e t l=>exact rM kl e t l
  | raw x=>exact rK kl x
  | map t kt vt ks vs=>exact rB kl t kt vt ks vs
  | iter m s0 l0=>rw [pR,gK kl m h]
  | box cs =>
   rw [rL]
   congr 2
   have:∀ l:List V,(∀ q∈V.refss l,q ∉ kl)→l.map (V.killAll kl) = l:=by
    intro l
    induction l with
    | nil=>intro _;rfl
    | cons v r ih =>
     intro hl
     rw [List.map_cons,gK kl v fun q hq=>hl q (by simp [V.refss,hq]),ih fun q hq=>hl q (by simp [V.refss,hq])]
   exact this cs h
theorem Ds {kl:List Nat} {b:Option Ob} (h:Dv (cd kl b) = true):cd kl b = b:=by
 cases b with
 | none=>exact pV kl
 | some b =>
  cases b with
  | row e t l=>exact rM kl e t l
  | raw x=>exact rK kl x
  | map t kt vt ks vs=>exact rB kl t kt vt ks vs
  | iter m s0 l0 =>
   rw [pR] at h ⊢
   rw [kO kl m h]
  | box cs =>
   rw [rL] at h ⊢
   congr 2
   have:∀ l:List V,V.noUnks (l.map (V.killAll kl)) = true→l.map (V.killAll kl) = l:=by
    intro l
    induction l with
    | nil=>intro _;rfl
    | cons v r ih =>
     intro hl
     rw [List.map_cons,V.noUnks,Bool.and_eq_true] at hl
     rw [List.map_cons,kO kl v hl.1,ih hl.2]
   exact this cs h
theorem xr {H:ab} {q:Nat}:∀ p∈mR (ab.get H q),p∈wE H:=by
 induction H with
 | nil=>intro p hp;simp [ab.get,mR] at hp
 | cons x H ih =>
  obtain ⟨o,b⟩:=x
  intro p hp
  rw [ab.get_cons] at hp
  unfold wE
  rw [List.flatMap_cons,List.mem_append]
  split at hp
  ·exact .inl hp
  ·exact .inr (ih p hp)
theorem mY (dst:Option Nat) (kl:List Nat) (s:az):mz dst ⟨s.ch,s.v.killAll kl⟩ = ⟨(mz dst s).ch,(mz dst s).v.killAll kl⟩:=by
 unfold mz
 cases dst with
 | none=>rfl
 | some d =>
  simp only
  cases s.ch.any (fun y=>Nat.beq y.1 d) with
  | false=>rfl
  | true =>
   simp only [cond_true]
   have:∀ kl:List Nat,(V.c D.unk).killAll kl = V.c D.unk:=by
    intro kl
    induction kl with
    | nil=>rfl
    | cons o r ih=>rw [V.killAll,V.kill,ih]
   rw [this]
theorem Hc (d d':Option Nat) (s:az):mz d (mz d' s) = mz d' (mz d s):=by
 unfold mz
 cases d with
 | none=>rfl
 | some d =>
  cases d' with
  | none=>rfl
  | some d' =>
   simp only
   cases h1:s.ch.any (fun y=>Nat.beq y.1 d) <;> cases h2:s.ch.any (fun y=>Nat.beq y.1 d') <;> simp [h1,h2]
theorem FA {d:Option Nat} {s:az} (h:∀ x∈s.ch,x.1 ∉ kw d):mz d s = s:=by
 unfold mz
 cases d with
 | none=>rfl
 | some d =>
  simp only
  have:s.ch.any (fun z=>Nat.beq z.1 d) = false:=by
   refine List.any_eq_false.2 fun x hx=>?_
   intro hb
   exact h x hx (by simp [kw,Nat.eq_of_beq_eq_true hb])
  rw [this]
  rfl
structure No (x y:bj):Prop where
  rds:∀ t,t∈kw x.dst→t ∉ y.rds
  dst:∀ t,t∈kw x.dst→t ∉ kw y.dst
  reach:∀ q,q∈cC x.res.eff→q ∉ y.reach
  keys:∀ q,q∈cC x.res.eff→q ∉ cC y.res.eff
  kill:x.res.kill = []∨((y.rws.1 = true∧∀ q∈x.res.kill,q ∉ y.reach∧q ∉ y.res.val.refs)∧(∀ q∈x.res.kill,q ∉ y.rws.2∧q ∉ wE y.res.eff)∧y.res.kill = [])
  killv:∀ q,q∈x.res.kill→q ∉ V.refss y.vs
theorem zi {x y:bj} (h:DA x y = true):No x y:=by
 unfold DA at h
 simp only [Bool.and_eq_true,Bool.or_eq_true,List.isEmpty_iff,Bool.not_eq_true'] at h
 obtain ⟨⟨h1,h2⟩,h3⟩:=h
 have g1:=jQ h1
 have g2:=jQ h2
 refine ⟨fun t ht hn=>g1 t ht (List.mem_append_left _ hn),fun t ht hn=>g1 t ht (List.mem_append_right _ hn),fun q hq hn=>g2 q hq (List.mem_append_left _ hn),fun q hq hn=>g2 q hq (List.mem_append_right _ hn), ?_,fun q hq hn=>?_⟩
 rotate_left
 ·rcases h3 with h3 | ⟨⟨a1,a2⟩,a4⟩
  ·rw [h3] at hq;cases hq
  ·exact jQ a2 q hq (by simp [hn])
 rcases h3 with h3 | ⟨⟨a1,a2⟩,a4⟩
 ·exact .inl h3
 ·refine .inr ⟨⟨a1,fun q hq=>⟨fun hn=>jQ a2 q hq ?_,fun hn=>jQ a2 q hq ?_⟩⟩,fun q hq=>⟨fun hn=>jQ a2 q hq ?_,fun hn=>jQ a2 q hq ?_⟩,a4⟩ <;> simp [hn]
theorem swap {nj ni:Nat} {oj oi:Oper} {rj ri:bj} (hj:eC P C N all σ nj oj rj) (hi:eC P C N all (after σ rj) ni oi ri) (hind:oP rj ri = true) :
  eC P C N all σ ni oi ri∧eC P C N all (after σ ri) nj oj rj∧kB (after (after σ ri) rj) (after (after σ rj) ri)∧holds σ.tm ri.ch = holds (after σ rj).tm ri.ch∧holds (after σ ri).tm rj.ch = holds σ.tm rj.ch:=by
 unfold oP at hind
 simp only [Bool.and_eq_true] at hind
 obtain ⟨⟨⟨hb1,hb2⟩,hnj⟩,hni⟩:=hind
 have bji:=zi hb1
 have bij:=zi hb2
 have back:=hi.congr (σ':=σ) (fun t ht=>by
   obtain ⟨s,g1,g2,_,_⟩:=hi.slots hni ht
   rw [Jm g1 (fun hd=>bji.rds t hd ht) g2,g1])
  (xo fun q hq=>by
   obtain ⟨_,e,e'⟩:=hi.parts
   have hq':=hq
   rw [← e] at hq
   rcases bji.kill with hk | ⟨⟨hk,_⟩,_⟩
   ·rw [gf,if_neg (fun hk=>bji.reach q hk hq),hk];rfl
   ·rw [e'] at hk
    have hrow:=List.all_eq_true.1 hk q hq'
    rw [gf,if_neg (fun hk=>bji.reach q hk hq)] at hrow ⊢
    exact Ds hrow)
 have forth:=hj.congr (σ':=after σ ri) (fun t ht=>by
   obtain ⟨s,g1,_,g3,g4⟩:=hj.slots hnj ht
   rw [g1]
   refine HK g1 (fun hd=>bij.rds t hd ht) ?_ fun x hx hd=>bij.rds _ hd (g3 x hx)
   intro q hq hqk
   rcases bij.kill with hk | ⟨⟨_,hk⟩,_⟩
   ·rw [hk] at hqk;simp at hqk
   ·exact bij.killv q hqk (g4 q hq))
  (xo fun q hq=>by
   obtain ⟨_,e,e'⟩:=hj.parts
   have hq':=hq
   rw [← e] at hq
   rw [gf,if_neg (fun hk=>bij.reach q hk hq)]
   rcases bij.kill with hk | ⟨_,hk,_⟩
   ·rw [hk];rfl
   ·refine (ou fun p hp hpk=>(hk p hpk).1 ?_).symm
    rw [e']
    exact List.mem_flatMap.2 ⟨q,hq',hp⟩)
 refine ⟨back.1,forth.1,⟨fun t=>?_,fun q=>?_⟩,back.2,forth.2⟩
 ·have chi:∀ x∈ri.ch,x.1 ∉ kw rj.dst:=fun x hx hd=>by
   exact bji.rds _ hd (hi.parts.1 x hx)
  have chj:∀ x∈rj.ch,x.1 ∉ kw ri.dst:=fun x hx hd=>by
   exact bij.rds _ hd (hj.parts.1 x hx)
  have vi:ri.res.val.killAll rj.res.kill = ri.res.val:=by
   rcases bji.kill with hk | ⟨⟨_,hk⟩,_⟩
   ·rw [hk];rfl
   ·exact gK _ _ fun q hq hqk=>(hk q hqk).2 hq
  have vj:rj.res.val.killAll ri.res.kill = rj.res.val:=by
   rcases bij.kill with hk | ⟨⟨_,hk⟩,_⟩
   ·rw [hk];rfl
   ·exact gK _ _ fun q hq hqk=>(hk q hqk).2 hq
  rw [fR (σ:=after σ ri) rj t,fR (σ:=σ) ri t,fR (σ:=after σ rj) ri t,fR (σ:=σ) rj t]
  by_cases h1:ri.dst = some t
  ·have h2:¬ rj.dst = some t:=fun e=>bij.dst t (sS.2 h1) (sS.2 e)
   rw [if_pos h1,if_neg h2,if_pos h1]
   simp only [Option.map_some,vi]
   rw [FA chi]
  ·by_cases h2:rj.dst = some t
   ·rw [if_pos h2,if_neg h1,if_pos h2]
    simp only [Option.map_some,vj]
    rw [FA chj]
   ·rw [if_neg h2,if_neg h1,if_neg h1,if_neg h2]
    cases au σ.tm t with
    | none=>rfl
    | some s =>
     simp only [Option.map_some,Option.some.injEq]
     rw [mY,mY,mY,mY]
     have hkk:rj.res.kill = []∨ri.res.kill = []:=by
      rcases bji.kill with hk | ⟨_,_,hk⟩
      ·exact .inl hk
      ·exact .inr hk
     rcases hkk with hk | hk
     ·rw [hk]
      simp only [V.killAll]
      rw [Hc rj.dst ri.dst s]
     ·rw [hk]
      simp only [V.killAll]
      rw [Hc rj.dst ri.dst s,mY rj.dst rj.res.kill s,mY ri.dst rj.res.kill (mz rj.dst s)]
 ·rw [gf (σ:=after σ ri) rj q,gf (σ:=σ) ri q,gf (σ:=after σ rj) ri q,gf (σ:=σ) rj q]
  by_cases h1:q∈cC ri.res.eff
  ·have h2:q ∉ cC rj.res.eff:=bij.keys q h1
   rw [if_neg h2,if_pos h1,if_pos h1]
   rcases bji.kill with hk | ⟨_,hk,_⟩
   ·rw [hk];rfl
   ·exact ou fun p hp hpk=>(hk p hpk).2 (xr p hp)
  ·by_cases h2:q∈cC rj.res.eff
   ·rw [if_pos h2,if_neg h1,if_pos h2]
    rcases bij.kill with hk | ⟨_,hk,_⟩
    ·rw [hk];rfl
    ·exact (ou fun p hp hpk=>(hk p hpk).2 (xr p hp)).symm
   ·rw [if_neg h2,if_neg h1,if_neg h1,if_neg h2]
    rcases bji.kill with hk | ⟨_,_,hk⟩
    ·rw [hk];rfl
    ·rw [hk];rfl
inductive iw (P:Program) (C:FuncId→Option CC) (N:Nat) (ops:Array Oper) (n0:Nat) (σf:St):St→List (Nat × bj)→Prop
  | done (σ:St) (h:kB σ σf):iw P C N ops n0 σf σ []
  | step (σ:St) (i:Nat) (o:Oper) (r:bj) (L:List (Nat × bj)) (hi:ops[i]? = some o) (hr:eC P C N ops.toList σ (n0+8*i) o r) (hp:∀ p∈la σ.tm r.ch r.res.pre,p)
      (h:iw P C N ops n0 σf (after σ r) L):iw P C N ops n0 σf σ ((i,r) :: L)
variable {ops:Array Oper} {n0:Nat} {σf:St}
theorem uj {tm tm':List (Nat × az)} {ch:aL} (h:holds tm' ch = holds tm ch) (ps:List Prop):la tm' ch ps = la tm ch ps:=by
 unfold la
 cases ch with
 | nil=>rfl
 | cons x l=>simp only [h]
theorem iw.eqv {L:List (Nat × bj)} (h:iw P C N ops n0 σf σ L):∀ {σ':St},kB σ σ'→iw P C N ops n0 σf σ' L:=by
 induction h with
 | done σ h=>exact fun e=>.done _ (e.symm.trans h)
 | step σ i o r L hi hr hp h ih =>
  intro σ' e
  obtain ⟨h1,h2⟩:=e.recOk hr
  exact .step σ' i o r L hi h1 (by rw [uj h2];exact hp) (ih (e.after r))
theorem iw.swap {i j:Nat} {ri rj:bj} {L:List (Nat × bj)} (h:iw P C N ops n0 σf σ ((j,rj) :: (i,ri) :: L)) (hind:oP rj ri = true):iw P C N ops n0 σf σ ((i,ri) :: (j,rj) :: L):=by
 cases h with
 | step _ _ oj _ _ hj hrj hpj h =>
  cases h with
  | step _ _ oi _ _ hi hri hpi h =>
   obtain ⟨h1,h2,h3,h4,h5⟩:=Go.Ax.swap hrj hri hind
   exact .step σ i oi ri _ hi h1 (by rw [uj h4];exact hpi) (.step _ j oj rj _ hj h2 (by rw [uj h5];exact hpj) (h.eqv h3.symm))
theorem iw.front {i:Nat} {ri:bj} {L2:List (Nat × bj)}:∀ (L1:List (Nat × bj)) {σ:St},iw P C N ops n0 σf σ (L1++(i,ri) :: L2)→(∀ x∈L1,oP x.2 ri = true)→iw P C N ops n0 σf σ ((i,ri) :: (L1++L2))
 | [],σ,h,_=>h
 | (j,rj) :: L1,σ,h,hi=>by
  cases h with
  | step _ _ oj _ _ hj hrj hpj h =>
   have:=iw.front L1 h fun x hx=>hi x (by simp [hx])
   exact iw.swap (.step σ j oj rj _ hj hrj hpj this) (hi (j,rj) (by simp))
end
end Go.Ax
namespace Go.Ax
open Go.RowKit
section
variable {P:Program} {N:Nat} {B:eL} {σ σ':St} {E:ar} {a:Act} {w:World} {C:FuncId→Option CC}
inductive uE (ops:Array Oper):Nat→Nat→Prop
  | edge (i:Nat) (o:Oper) (e:Edge) (hi:ops[i]? = some o) (he:e∈o.after) (hb:Region.binds .any e = true):uE ops e.on i
  | trans (i j:Nat) (o:Oper) (e:Edge) (hi:ops[i]? = some o) (he:e∈o.after) (hb:Region.binds .any e = true) (h:uE ops j e.on):uE ops j i
theorem GE {ops:Array Oper} {acc:List Nat} (hacc:∀ i j,(acc.getD i 0).testBit j = true→uE ops j i) {i:Nat} {o:Oper} (hi:ops[i]? = some o) {j:Nat} (h:(Fs acc o).testBit j = true):uE ops j i:=by
 unfold Fs at h
 have key:∀ (l:List Edge) (s:Nat),(∀ e∈l,e∈o.after)→(∀ j,s.testBit j = true→uE ops j i) →
   (l.foldl (fun s e=>bif Region.binds .any e then s ||| (2 ^ e.on ||| acc.getD e.on 0) else s) s).testBit j = true→uE ops j i:=by
  intro l
  induction l with
  | nil=>intro s _ hs h;exact hs j h
  | cons e l ih =>
   intro s hl hs h
   rw [List.foldl_cons] at h
   refine ih _ (fun x hx=>hl x (by simp [hx])) ?_ h
   cases hb:Region.binds .any e with
   | false=>simpa [hb] using hs
   | true =>
    intro q hq
    simp only [cond_true,Nat.testBit_or,Bool.or_eq_true] at hq
    rcases hq with hq | hq | hq
    ·exact hs q hq
    ·rw [Nat.testBit_two_pow] at hq
     have:e.on = q:=by simpa using hq
     rw [← this]
     exact .edge i o e hi (hl e (by simp)) hb
    ·exact .trans i q o e hi (hl e (by simp)) hb (hacc _ _ hq)
 exact key _ 0 (fun e he=>by simpa using he) (fun j hj=>by simp at hj) h
theorem zh {ops:Array Oper}:∀ (rest:List Oper) (acc:List Nat),ops.toList.drop acc.length = rest→(∀ i j,(acc.getD i 0).testBit j = true→uE ops j i)→∀ i j,((wT rest acc).getD i 0).testBit j = true→uE ops j i
 | [],acc,_,h=>h
 | o :: r,acc,hd,h=>by
  rw [wT]
  have hi:ops[acc.length]? = some o:=by
   have:=congrArg (·[0]?) hd
   simpa using this
  refine zh r _ ?_ ?_
  ·rw [List.length_append, ← List.drop_drop,hd];rfl
  ·intro i j hij
   rw [List.getD_eq_getElem?_getD,List.getElem?_append] at hij
   split at hij
   ·exact h i j (by rw [List.getD_eq_getElem?_getD];exact hij)
   ·next hlt =>
    by_cases he:i = acc.length
    ·subst he
     exact GE h hi (by simpa using hij)
    ·have:i - acc.length≠0:=by omega
     rw [List.getElem?_singleton] at hij
     simp [this] at hij
theorem xl {m:Nat} {r:bj}:∀ (l:List bj) (j:Nat),zL m r j l = true→∀ (k:Nat) (q:bj),l[k]? = some q→m.testBit (j+k) = true∨oP q r = true
 | [],j,_,k,q,h=>by simp at h
 | x :: l,j,hp,k,q,h=>by
  rw [zL] at hp
  simp only [Bool.and_eq_true,Bool.or_eq_true] at hp
  match k with
  | 0=>simp at h;subst h;simpa using hp.1
  | k+1 =>
   have:=xl l (j+1) hp.2 k q (by simpa using h)
   rw [show j+(k+1) = j+1+k by omega]
   exact this
theorem xH {ms:List Nat}:∀ (rest done:List bj),su ms done rest = true→∀ (i j:Nat) (q r:bj),j < i→(done++rest)[i]? = some r→(done++rest)[j]? = some q→done.length≤i→(ms.getD i 0).testBit j = true∨oP q r = true
 | [],done,_,i,j,q,r,hji,hi,hj,hlt=>by
  rw [List.append_nil] at hi
  have:=(List.getElem?_eq_some_iff.1 hi).1
  omega
 | x :: l,done,h,i,j,q,r,hji,hi,hj,hlt=>by
  rw [su] at h
  simp only [Bool.and_eq_true] at h
  rcases Nat.lt_or_ge done.length i with hlt' | hge
  ·refine xH l (done++[x]) h.2 i j q r hji ?_ ?_ ?_
   ·rw [List.append_assoc];exact hi
   ·rw [List.append_assoc];exact hj
   ·simp;omega
  ·have he:i = done.length:=by omega
   subst he
   rw [List.getElem?_append_right (Nat.le_refl _)] at hi
   simp at hi
   subst hi
   rw [List.getElem?_append_left hji] at hj
   have:=xl done 0 h.1 j q hj
   simpa using this
theorem uG {ops:Array Oper}:∀ (rest:List Oper) (n:Nat),ops.toList.drop n = rest→mQ n rest = true→∀ (i:Nat) (o:Oper) (e:Edge),n≤i→ops[i]? = some o→e∈o.after→Region.binds .any e = true→e.on < i
 | [],n,hd,_,i,o,e,hn,hi,_,_=>by
  have h1:=List.drop_eq_nil_iff.1 hd
  have h2:=(Array.getElem?_eq_some_iff.1 hi).1
  simp at h1
  omega
 | x :: l,n,hd,h,i,o,e,hn,hi,he,hb=>by
  rw [mQ] at h
  simp only [Bool.and_eq_true] at h
  rcases Nat.lt_or_ge n i with hlt | hge
  ·exact uG l (n+1) (by rw [← List.drop_drop,hd];rfl) h.2 i o e hlt hi he hb
  ·have:i = n:=by omega
   subst this
   have hx:ops[i]? = some x:=by
    have:=congrArg (·[0]?) hd
    simpa using this
   rw [hx] at hi
   cases hi
   have:=List.all_eq_true.1 h.1 e (by simpa using he)
   simpa [hb] using this
theorem aw.congr {H H':ab} (h:aw E w H) (he:∀ o,ab.get H' o = ab.get H o):aw E w H' :=
 ⟨fun o ob ho=>h.at_ o ob (by rw [← he];exact ho),h.inj,h.sep,h.lt,h.oklt⟩
theorem bd.drawn (hs:bd N B σ E a w) (n:Nat):bd N B σ E a { w with drawn:=n }:=by
 have hS:cQ E w [] E { w with drawn:=n }:=⟨rfl,rfl,rfl,Nat.le_refl _,fun _ h=>h,fun _ _ _=>rfl,fun _ h=>h,fun _ h=>.inl h,fun _ _ _=>⟨rfl,rfl,rfl⟩,fun o b h1 h2=>.inl ⟨o,h1,h2⟩⟩
 have hr:∀ v d,af E w v d→af E { w with drawn:=n } v d:=fun v d h=>by simpa [V.killAll] using h.step hS hs.heap.sep hs.heap.oklt
 have hd:∀ v d,aG E.ok w v d→aG E.ok { w with drawn:=n } v d:=fun v d h=>aG.mono (w:=w) (w':={ w with drawn:=n }) (fun _ h=>h) (fun _ _=>rfl) h
 refine ⟨hs.size,hs.small,hs.defers,hs.live,⟨fun o ob ho=>?_,hs.heap.inj,hs.heap.sep,hs.heap.lt,hs.heap.oklt⟩,fun t s hg=>⟨fun h=>hr _ _ ((hs.slots t s hg).1 h),(hs.slots t s hg).2⟩,⟨hs.base.os,hs.base.tape,hs.base.output,hs.base.size,hs.base.block⟩,hs.own,hs.okold⟩
 have:=hs.heap.at_ o ob ho
 exact ⟨this.1,lC this.2 ⟨rfl,rfl,rfl⟩ (fun _ _=>rfl) hr hd⟩
theorem kB.holds (h:kB σ σ') (ch:aL):holds σ'.tm ch = holds σ.tm ch:=gn ch fun x _=>by rw [h.tm]
theorem bd.eqv (hs:bd N B σ E a w) (h:kB σ σ') (hn:σ.nx≤σ'.nx):bd N B σ' E a w:=by
 refine ⟨hs.size,hs.small,hs.defers,fun q hq=>hs.live q (by omega),hs.heap.congr fun o=>(h.hp o).symm,fun t s hg=>?_,hs.base,hs.own,hs.okold⟩
 rw [← h.tm] at hg
 have:=hs.slots t s hg
 refine e8 (tm:=σ.tm) ⟨?_, ?_⟩ ?_
 ·exact this.1
 ·exact this.2
 ·intro x _ _;rw [h.tm]
theorem bd.weaken_nx (hs:bd N B σ E a w) {M:Nat} (h:σ.nx≤M):bd N B { σ with nx:=M } E a w :=
 ⟨hs.size,hs.small,hs.defers,fun q hq=>hs.live q (Nat.le_trans h hq),hs.heap,hs.slots,hs.base,hs.own,hs.okold⟩
theorem iw.dom {ops:Array Oper} {n0:Nat} {σf:St} {L:List (Nat × bj)} (h:iw P C N ops n0 σf σ L):∀ x∈L,x.1 < ops.size:=by
 induction h with
 | done=>intro x hx;simp at hx
 | step σ i o r L hi hr hp h ih =>
  intro x hx
  rcases List.mem_cons.1 hx with rfl | hx
  ·exact (Array.getElem?_eq_some_iff.1 hi).1
  ·exact ih x hx
theorem Mg (hC:∀ f con,C f = some con→bq P f con) {ops:Array Oper} {Q:Exit→Act→World→Prop} {σf:St} {M n0:Nat} (hM:n0+8*ops.size≤M)
  (hedge:∀ (i:Nat) (o:Oper) (e:Edge),ops[i]? = some o→e∈o.after→Region.binds .any e = true→e.on < i)
  (hQ:∀ σ' E' a' w',kB σ' σf→σ'.nx = M→bd N B σ' E' a' w'→Q .normal a' w'):∀ (fuel:Nat) (L:List (Nat × bj)) (listed:Array Bool) (σ:St) (E:ar) (a:Act) (w:World),
  L.length = fuel→listed.size = ops.size→(∀ i,i < ops.size→(listed.getD i false = false↔i∈L.map (·.1)))→L.Pairwise (fun x y=>x.1 < y.1) →
  L.Pairwise (fun x y=>uE ops x.1 y.1∨oP x.2 y.2 = true)→(∀ i j,uE ops j i→listed.getD i false = true→listed.getD j false = true) →
  iw P C N ops n0 σf σ L→σ.nx = M→bd N B σ E a w→(∀ x∈L,eA E (n0+8*x.1))→wpAny P .any ops Q fuel listed a w:=by
 intro fuel
 induction fuel with
 | zero =>
  intro L listed σ E a w hl hsz hmem _ _ _ hr hnx hs _
  have hL:L = []:=List.length_eq_zero_iff.1 hl
  subst hL
  refine ⟨List.eq_nil_iff_forall_not_mem.2 fun i hi=>?_, ?_⟩
  ·obtain ⟨h0,o,ho,_⟩:=mem_ready.1 hi
   have hlt:=(Array.getElem?_eq_some_iff.1 ho).1
   have:listed.getD i false = false:=by
    rw [Array.getD_eq_getD_getElem?] at h0 ⊢
    have:i < listed.size:=by omega
    simpa [this] using h0
   simpa using (hmem i hlt).1 this
  ·cases hr with
   | done _ h=>exact hQ σ E a w h hnx hs
 | succ fuel ih =>
  intro L listed σ E a w hl hsz hmem hlt hpair hclosed hr hnx hs hlive
  have un:∀ i,i < ops.size→(listed.getD i true = false↔listed.getD i false = false):=by
   intro i hi
   rw [Array.getD_eq_getD_getElem?,Array.getD_eq_getD_getElem?]
   have:i < listed.size:=by omega
   simp [this]
  refine ⟨fun hnil=>?_,fun i hi=>?_⟩
  ·exfalso
   match L,hl with
   | x :: L',_ =>
    have hx:x.1 < ops.size:=hr.dom x (by simp)
    have hin:x.1∈Region.ready .any ops listed:=by
     refine mem_ready.2 ⟨(un _ hx).2 ((hmem _ hx).2 (by simp)),ops[x.1],Array.getElem?_eq_getElem hx,fun e he hb=>?_⟩
     have hon:=hedge x.1 _ e (Array.getElem?_eq_getElem hx) he hb
     cases hc:listed.getD e.on false with
     | true=>rfl
     | false =>
      have:=(hmem e.on (by omega)).1 hc
      obtain ⟨y,hy,hye⟩:=List.mem_map.1 this
      rcases List.mem_cons.1 hy with rfl | hy
      ·omega
      ·have:=(List.pairwise_cons.1 hlt).1 y hy
       omega
    rw [hnil] at hin
    simp at hin
  ·obtain ⟨h0,o,ho,hall⟩:=mem_ready.1 hi
   have hisz:=(Array.getElem?_eq_some_iff.1 ho).1
   have hiL:=(hmem i hisz).1 ((un i hisz).1 h0)
   obtain ⟨y,hy,hyi⟩:=List.mem_map.1 hiL
   obtain ⟨i',ri⟩:=y
   simp only at hyi
   subst hyi
   obtain ⟨L1,L2,rfl⟩:=List.append_of_mem hy
   have hanc:∀ j,uE ops j i'→listed.getD j false = true:=by
    intro j hj
    cases hj with
    | edge _ o' e hi' he hb=>rw [ho] at hi'; cases hi'; exact hall e he hb
    | trans _ _ o' e hi' he hb h=>rw [ho] at hi'; cases hi'; exact hclosed _ _ h (hall e he hb)
   have hind:∀ x∈L1,oP x.2 ri = true:=by
    intro x hx
    rcases (List.pairwise_append.1 hpair).2.2 x hx (i',ri) (by simp) with h | h
    ·exfalso
     have h1:=hanc _ h
     have h2:=(hmem x.1 (hr.dom x (by simp [hx]))).2 (List.mem_map.2 ⟨x,by simp [hx],rfl⟩)
     rw [h1] at h2
     cases h2
    ·exact h
   have hfr:=iw.front L1 hr hind
   cases hfr with
   | step _ _ o' _ _ hi' hrec hpp hrest =>
    refine AE (M:=M) hC hs hi' (hlive (i',ri) (by simp)) (by omega) (by omega) hrec hpp fun E' a' w' hs' hl'=>?_
    have heq:{ after σ ri with nx:=M } = after σ ri:=by
     rw [← hnx];rfl
    rw [heq] at hs'
    have hno:∀ x∈L1++L2,x.1≠i':=by
     intro x hx
     rcases List.mem_append.1 hx with hx | hx
     ·have:=(List.pairwise_append.1 hlt).2.2 x hx (i',ri) (by simp)
      simp only at this;omega
     ·have:=(List.pairwise_cons.1 (List.pairwise_append.1 hlt).2.1).1 x hx
      simp only at this;omega
    have hsub:(L1++L2).Sublist (L1++(i',ri) :: L2):=List.Sublist.append (List.Sublist.refl _) (List.sublist_cons_self _ _)
    refine ih (L1++L2) _ (after σ ri) E' a' w' ?_ ?_ ?_ (hlt.sublist hsub) (hpair.sublist hsub) ?_ hrest hnx hs' ?_
    ·simp only [List.length_append,List.length_cons] at hl ⊢; omega
    ·simp [hsz]
    ·intro k hk
     by_cases hki:k = i'
     ·subst hki
      constructor
      ·intro h
       have:k < listed.size:=by omega
       simp [this] at h
      ·intro h
       obtain ⟨x,hx,hxe⟩:=List.mem_map.1 h
       exact (hno x hx hxe).elim
     ·rw [getD_set_ne false (Ne.symm hki),hmem k hk]
      simp only [List.map_append,List.map_cons,List.mem_append,List.mem_cons]
      constructor
      ·rintro (h | h | h)
       ·exact .inl h
       ·exact (hki h).elim
       ·exact .inr h
      ·rintro (h | h)
       ·exact .inl h
       ·exact .inr (.inr h)
    ·intro p q hpq hp
     by_cases hpi:p = i'
     ·subst hpi
      exact getD_set_true (hanc q hpq)
     ·rw [getD_set_ne false (Ne.symm hpi)] at hp
      exact getD_set_true (hclosed p q hpq hp)
    ·intro x hx j hj hlx
     rcases hl' _ hlx with h | h
     ·exact hlive x (hsub.subset hx) j hj h
     ·have:=hno x hx
      omega
inductive Ha (P:Program) (C:FuncId→Option CC) (N:Nat) (all:List Oper):List Oper→Nat→St→List bj→St→Prop
  | nil (nid:Nat) (σ:St):Ha P C N all [] nid σ [] { σ with tm:=lW σ.tm }
  | cons (o:Oper) (r:List Oper) (nid:Nat) (σ σ':St) (rc:bj) (rcs:List bj) (h:eC P C N all σ nid o rc) (hp:∀ p∈la σ.tm rc.ch rc.res.pre,p) (hr:Ha P C N all r (nid+8) (after σ rc) rcs σ'):Ha P C N all (o :: r) nid σ (rc :: rcs) σ'
theorem Fh {ops:Array Oper} {n0:Nat}:∀ (rest:List Oper) (i:Nat) (σ:St) (rcs:List bj) (σ2:St),ops.toList.drop i = rest→Ha P C N ops.toList rest (n0+8*i) σ rcs σ2 →
  ∃ σf,iw P C N ops n0 σf σ ((List.range' i rcs.length).zip rcs)∧σ2 = { σf with tm:=lW σf.tm }∧σf.nx = σ.nx∧rcs.length = rest.length
 | [],i,σ,rcs,σ2,hd,h=>by
  cases h
  exact ⟨σ, .done _ (.refl _),rfl,rfl,rfl⟩
 | o :: r,i,σ,rcs,σ2,hd,h=>by
  cases h with
  | cons _ _ _ _ _ rc rcs' h1 hp h2 =>
   have hi:ops[i]? = some o:=by
    have:=congrArg (·[0]?) hd
    simpa using this
   obtain ⟨σf,hr,he,hn,hl⟩:=Fh r (i+1) (after σ rc) rcs' σ2 (by rw [← List.drop_drop,hd];rfl) h2
   refine ⟨σf, ?_,he,hn,by simp [hl]⟩
   rw [List.length_cons,List.range'_succ,List.zip_cons_cons]
   exact .step σ i o rc _ hi h1 hp hr
theorem Bj (hm:P.follows .mixedOrders = true) (hC:∀ f con,C f = some con→bq P f con) {id:Nat} {ops:Array Oper} {Q:Exit→Act→World→Prop} {rcs:List bj}
    (hg:Ha P C N ops.toList ops.toList σ.nx { σ with nx:=σ.nx+8*ops.toList.length } rcs σ') (he:mQ 0 ops.toList = true) (hd:su (wT ops.toList []) [] rcs = true)
    (hs:bd N B σ E a w) (hQ:∀ E' a' w',bd N B σ' E' a' w'→Q .normal a' w'):(Code.region id ops true).wp P Q a w:=by
  obtain ⟨σf,hr,e,hn,hl⟩:=Fh (n0:=σ.nx) ops.toList 0 _ rcs σ' rfl (by simpa using hg)
  refine wp_region_any hm ?_
  have hsz:rcs.length = ops.size:=by simpa using hl
  have hs1:bd N B { σ with nx:=σ.nx+8*ops.toList.length } E a { w with drawn:=w.drawn+1 }:=by
    have:=hs.weaken_nx (M:=σ.nx+8*ops.toList.length) (Nat.le_add_right _ _)
    exact this.drawn _
  have hget:∀ (k:Nat) (x:Nat × bj),((List.range' 0 rcs.length).zip rcs)[k]? = some x→x.1 = k∧rcs[k]? = some x.2:=by
    intro k x hx
    rw [List.getElem?_zip_eq_some] at hx
    obtain ⟨h1,h2⟩:=hx
    rw [List.getElem?_range' (by exact (List.getElem?_eq_some_iff.1 h2).1)] at h1
    first
      | (have h3:0+1*k = x.1:=Option.some.inj h1
         exact ⟨by omega,h2⟩)
  refine Mg (M:=σ.nx+8*ops.toList.length) (n0:=σ.nx) (σf:=σf) hC (by simp) (fun i o e hi hem hb=>uG ops.toList 0 rfl he i o e (Nat.zero_le _) hi hem hb) ?_ ops.size ((List.range' 0 rcs.length).zip rcs) _ _ E a _ ?_ ?_ ?_ ?_ ?_ ?_ hr rfl hs1 ?_
  · intro σ2 E' a' w' hev hnx hs2
    refine hQ E' a' w' ?_
    have h3:bd N B σf E' a' w':=hs2.eqv hev (by rw [hnx,hn];exact Nat.le_refl _)
    rw [e]
    exact yD h3
  · simp [hsz]
  · simp
  · intro i hi
    constructor
    · intro _
      have h1:i < rcs.length:=by omega
      refine List.mem_map.2 ⟨(i,rcs[i]), ?_,rfl⟩
      refine List.mem_of_getElem? (i:=i) ?_
      rw [List.getElem?_zip_eq_some]
      simp [h1]
    · intro _
      simp [hi]
  · rw [List.pairwise_iff_getElem]
    intro i j hi hj hij
    have h1:=hget i _ (List.getElem?_eq_getElem hi)
    have h2:=hget j _ (List.getElem?_eq_getElem hj)
    rw [h1.1,h2.1];exact hij
  · rw [List.pairwise_iff_getElem]
    intro i j hi hj hij
    have h1:=hget i _ (List.getElem?_eq_getElem hi)
    have h2:=hget j _ (List.getElem?_eq_getElem hj)
    rw [h1.1,h2.1]
    rcases xH rcs [] hd j i _ _ hij h2.2 h1.2 (Nat.zero_le _) with h | h
    · exact .inl (zh ops.toList [] rfl (fun i j h=>by simp at h) _ _ h)
    · exact .inr h
  · intro i j hanc h
    exfalso
    rw [Array.getD_eq_getD_getElem?,Array.getElem?_replicate] at h
    split at h <;> simp at h
  · intro x hx
    exact .of hs.live (Nat.le_add_right _ _)
end
end Go.Ax
namespace Go.Ax
open Go.RowKit
structure cO (σ σ':St):Prop where
  sim:∀ (N:Nat) (B:eL) (E:ar) (a:Act) (w:World),bd N B σ E a w→∃ E',bd N B σ' E' a w
def IB (K1:St→Prop) (K:Exit→St→Prop):Exit→St→Prop
 | .normal,σ=>K1 σ
 | e,σ=>K e σ
def JR (id:Nat) (K:Exit→St→Prop):Exit→St→Prop
 | .exit id',σ=>bif Nat.beq id' id then K .normal σ else K (.exit id') σ
 | e,σ=>K e σ
section
variable {P:Program} {N:Nat} {B:eL} {C:FuncId→Option CC}
def KS (N:Nat) (B:eL) (K:Exit→St→Prop) (e:Exit) (a:Act) (w:World):Prop:=∃ σ E,K e σ∧bd N B σ E a w
theorem Mb (body:(Exit→St→Prop)→St→Prop) (c:Code)
  (hbody:∀ (K:Exit→St→Prop) (σ:St) (E:ar) (a:Act) (w:World),body K σ→bd N B σ E a w→c.wp P (KS N B K) a w)
  (I:Nat→St→Prop) (K:Exit→St→Prop) (hI:∀ m σ,I m σ→body (IB (fun σ'=>∃ m' σ'',m' < m∧cO σ' σ''∧I m' σ'') K) σ) :
  ∀ (m:Nat) (σ:St) (E:ar) (a:Act) (w:World),I m σ→bd N B σ E a w→(Code.loop c).wp P (KS N B K) a w:=by
 intro m σ E a w hm hs b k cs
 have key:∀ m σ E a w,I m σ→bd N B σ E a w→∃ e a' w',KS N B K e a' w'∧Arrives P (lone (b.at a (.code c :: .inLoop c :: k)) cs w) b k cs e a' w':=by
  intro m
  induction m using Nat.strongRecOn with
  | _ m ih =>
   intro σ E a w hm hs
   obtain ⟨e,a₁,w₁,⟨σ₁,E₁,hk,hs₁⟩,harr⟩:=hbody _ σ E a w (hI m σ hm) hs b (.inLoop c :: k) cs
   cases e with
   | normal =>
    obtain ⟨m',σ2,hlt,hent,hI'⟩:=hk
    obtain ⟨E2,hs2⟩:=hent.sim N B E₁ a₁ w₁ hs₁
    obtain ⟨e₂,a₂,w₂,hq₂,harr₂⟩:=ih m' hlt σ2 E2 a₁ w₁ hI' hs2
    exact ⟨e₂,a₂,w₂,hq₂, .of_steps (Steps.trans harr (.one step_inLoop)) harr₂⟩
   | exit id=>exact ⟨_,a₁,w₁,⟨σ₁,E₁,hk,hs₁⟩, .pass (x:=.inLoop c) rfl (fun _ _=>.inl (by simp)) harr⟩
   | goto l=>exact ⟨_,a₁,w₁,⟨σ₁,E₁,hk,hs₁⟩, .pass (x:=.inLoop c) rfl (fun _ _=>.inl (by simp)) harr⟩
   | ret=>exact ⟨_,a₁,w₁,⟨σ₁,E₁,hk,hs₁⟩, .pass (x:=.inLoop c) rfl (fun _ _=>.inl (by simp)) harr⟩
   | panic ch=>exact ⟨_,a₁,w₁,⟨σ₁,E₁,hk,hs₁⟩, .pass (x:=.inLoop c) rfl (fun _ _=>.inl (by simp)) harr⟩
   | outgrown=>exact ⟨_,a₁,w₁,⟨σ₁,E₁,hk,hs₁⟩, .pass (x:=.inLoop c) rfl (fun _ _=>.inl (by simp)) harr⟩
 obtain ⟨e,a',w',hq,harr⟩:=key m σ E a w hm hs
 exact ⟨e,a',w',hq, .of_steps (.one step_loop) harr⟩
end
section
variable {σ σ' σ'':St}
theorem cO.refl (σ:St):cO σ σ:=⟨fun _ _ E _ _ h=>⟨E,h⟩⟩
theorem cO.trans (h:cO σ σ') (h':cO σ' σ''):cO σ σ'':=⟨fun N B E a w hs=>by
 obtain ⟨E',hs'⟩:=h.sim N B E a w hs
 exact h'.sim N B E' a w hs'⟩
end
def nX (f:Func):Code:=match f.body with | some c=>c | none=>.skip
abbrev ae (n:Int):Int:=IntKind.i64.wrap n
abbrev sv (t:Nat) (v:V):Nat × az:=(t,⟨[],v⟩)
end Go.Ax
namespace Go.Ax
open Go.RowKit
mutual
def VLe:V→V→Prop
 | .c d, .c d'=>ve d d'
 | .agg xs, .agg ys=>VLes xs ys
 | .tup xs, .tup ys=>VLes xs ys
 | .dptr k cs j, .dptr k' cs' j'=>k = k'∧j = j'∧dF cs cs'
 | .fn f xs, .fn g ys=>f = g∧VLes xs ys
 | _, .c .unk=>True
 | x,y=>x = y
def VLes:List V→List V→Prop
 | [],[]=>True
 | x :: xs,y :: ys=>VLe x y∧VLes xs ys
 | _,_=>False
end
section
variable {P:Program} {N:Nat} {B:eL} {σ:St} {E:ar} {a:Act} {w:World} {C:FuncId→Option CC}
theorem po:∀ {xs ys:List V},VLes xs ys→xs.length = ys.length∧∀ (i:Nat) (x y:V),xs[i]? = some x→ys[i]? = some y→VLe x y
 | [],[],_=>⟨rfl,fun i x y h=>by simp at h⟩
 | x :: xs,y :: ys,h=>by
  rw [VLes] at h
  obtain ⟨h1,h2⟩:=po h.2
  refine ⟨by simp [h1],fun i p q hp hq=>?_⟩
  match i with
  | 0=>simp at hp hq;subst hp;subst hq;exact h.1
  | i+1=>exact h2 i p q (by simpa using hp) (by simpa using hq)
 | [],_ :: _,h=>by simp [VLes] at h
 | _ :: _,[],h=>by simp [VLes] at h
theorem af.le {v:Value} {d d':V} (h:af E w v d):VLe d d'→af E w v d':=by
 induction h generalizing d' with
 | c v d h =>
  intro hd
  cases d' with
  | c d'=>exact .c _ _ (h.le (by simpa [VLe] using hd))
  | _=>simp [VLe] at hd
 | agg vs ds hl h ih =>
  intro hd
  cases d' with
  | agg ys =>
   rw [VLe] at hd
   obtain ⟨h1,h2⟩:=po hd
   refine .agg _ _ (hl.trans h1) fun i v d hv hd'=>?_
   have hlt:i < ds.length:=by rw [h1];exact (List.getElem?_eq_some_iff.1 hd').1
   exact ih i v _ hv (List.getElem?_eq_getElem hlt) (h2 i _ _ (List.getElem?_eq_getElem hlt) hd')
  | c d=>cases d <;> simp [VLe] at hd;exact .unk _
  | _=>simp [VLe] at hd
 | tup vs ds hl h ih =>
  intro hd
  cases d' with
  | tup ys =>
   rw [VLe] at hd
   obtain ⟨h1,h2⟩:=po hd
   refine .tup _ _ (hl.trans h1) fun i v d hv hd'=>?_
   have hlt:i < ds.length:=by rw [h1];exact (List.getElem?_eq_some_iff.1 hd').1
   exact ih i v _ hv (List.getElem?_eq_getElem hlt) (h2 i _ _ (List.getElem?_eq_getElem hlt) hd')
  | c d=>cases d <;> simp [VLe] at hd;exact .unk _
  | _=>simp [VLe] at hd
 | ptr o k i j b h1 h2 h3 =>
  intro hd
  cases d' with
  | c d=>cases d <;> simp [VLe] at hd;exact .unk _
  | ptr=>simp only [VLe] at hd;rw [← hd];exact .ptr o k i j b h1 h2 h3
  | _=>simp [VLe] at hd
 | row o k a n c hn hl hc hm h0 =>
  intro hd
  cases d' with
  | c d=>cases d <;> simp [VLe] at hd;exact .unk _
  | row=>simp only [VLe] at hd;rw [← hd];exact .row o k a n c hn hl hc hm h0
  | _=>simp [VLe] at hd
 | sub o k off n a c hn hc hm hl ha =>
  intro hd
  cases d' with
  | c d=>cases d <;> simp [VLe] at hd;exact .unk _
  | sub=>simp only [VLe] at hd;rw [← hd];exact .sub o k off n a c hn hc hm hl ha
  | _=>simp [VLe] at hd
 | dptr k cs j ad u h1 h2 h3 h4 =>
  intro hd
  cases d' with
  | c d=>cases d <;> simp [VLe] at hd;exact .unk _
  | dptr k' cs' j' =>
   simp only [VLe] at hd
   obtain ⟨rfl,rfl,hd⟩:=hd
   exact .dptr k cs' j ad u h1 h2 (hd.1.symm.trans h3) fun i d' hd'=>by
    have hi:i < cs.length:=by rw [hd.1];exact (List.getElem?_eq_some_iff.1 hd').1
    exact (h4 i _ (List.getElem?_eq_getElem hi)).le (hd.2 i _ d' (List.getElem?_eq_getElem hi) hd')
  | _=>simp [VLe] at hd
 | fn f vs ds hl h ih =>
  intro hd
  cases d' with
  | c d=>cases d <;> simp [VLe] at hd;exact .unk _
  | fn g ds' =>
   rw [VLe] at hd
   obtain ⟨rfl,hd⟩:=hd
   obtain ⟨h1,h2⟩:=po hd
   refine .fn f vs ds' (hl.trans h1) fun i v d hv hd'=>?_
   have hlt:i < ds.length:=by rw [h1];exact (List.getElem?_eq_some_iff.1 hd').1
   exact ih i v _ hv (List.getElem?_eq_getElem hlt) (h2 i _ _ (List.getElem?_eq_getElem hlt) hd')
  | _=>simp [VLe] at hd
theorem aI.le {vs:List Value} {ds ds':List V} (h:aI E w vs ds) (hd:VLes ds ds'):aI E w vs ds':=by
 obtain ⟨h1,h2⟩:=po hd
 refine ⟨h.1.trans h1,fun i v d hv hd'=>?_⟩
 have hlt:i < ds.length:=by rw [h1];exact (List.getElem?_eq_some_iff.1 hd').1
 exact (h.2 i v _ hv (List.getElem?_eq_getElem hlt)).le (h2 i _ _ (List.getElem?_eq_getElem hlt) hd')
end
def iY:List V→Nat→List (Nat × az)
 | [],_=>[]
 | v :: r,i=>(i,⟨[],v⟩) :: iY r (i+1)
def EV (P:Program) (σ:St):ResultVar→Option V
 | .tmp t=>bC σ [] (.tmp t)
 | .cell s T=>match bC σ [] (.tmp s) with | some x=>(match mi P σ.hp T x with | some r=>some r.val | none=>none) | none=>none
def vK (P:Program) (σ:St):ResultVar→Prop
 | .tmp _=>True
 | .cell s T=>∀ x r,bC σ [] (.tmp s) = some x→mi P σ.hp T x = some r→∀ p∈r.pre,p
def kP (P:Program) (σ:St) (rs:List ResultVar):Option V :=
 match rs.mapM (EV P σ) with
 | some [v]=>some v
 | some vs=>some (.tup vs)
 | none=>none
def MR (P:Program) (rs:List ResultVar) (Q:ab→V→Prop):Exit→St→Prop
 | .ret,σ=>(match kP P σ rs with | some v=>(∀ x∈rs,vK P σ x)∧Q σ.hp v | none=>False)
 | .normal,σ=>(match kP P σ rs with | some v=>(∀ x∈rs,vK P σ x)∧Q σ.hp v | none=>False)
 | _,_=>False
def D.scal:D→Bool
 | .sl ..=>false
 | _=>true
def Ty.sc1:Ty→Bool
 | .i _=>true
 | .b=>true
 | .s=>true
 | _=>false
def Ty.sc:Ty→Bool
 | .st k=>(lf k).all Ty.sc1
 | .arr _ t=>t.sc
 | t=>t.sc1
theorem Ct {t:Ty} (h:t.sc1 = true) (x:t.T):(iQ t x).scal = true:=by
 cases t with
 | i k=>rfl
 | b=>rfl
 | s=>rfl
 | _=>cases h
theorem Cv:∀ (ts:List Ty) (x:HP ts),ts.all Ty.sc1 = true→∀ d∈eX ts x,d.scal = true
 | [],_,_,d,hd=>by simp [eX] at hd
 | [t],x,h,d,hd=>by
  simp [eX] at hd;subst hd
  exact Ct (by simpa using h) _
 | t :: u :: r,x,h,d,hd=>by
  rw [eX,List.mem_cons] at hd
  rw [List.all_cons,Bool.and_eq_true] at h
  rcases hd with rfl | hd
  ·exact Ct h.1 _
  ·exact Cv (u :: r) _ h.2 d hd
theorem DO:∀ (t:Ty) (x:t.T),t.sc = true→∀ d∈t.enc x,d.scal = true
 | .i _,_,_,d,hd=>by simp [Ty.enc] at hd;subst hd;rfl
 | .b,_,_,d,hd=>by simp [Ty.enc] at hd;subst hd;rfl
 | .s,_,_,d,hd=>by simp [Ty.enc] at hd;subst hd;rfl
 | .ls _,_,h,_,_=>by simp [Ty.sc,Ty.sc1] at h
 | .st k,x,h,d,hd=>Cv _ _ h d hd
 | .arr n t,l,h,d,hd=>by
  have hd':d∈(List.range n).flatMap fun i=>t.enc (l.getD i t.z):=hd
  obtain ⟨i,_,hi⟩:=List.mem_flatMap.1 hd'
  exact DO t _ h d hi
theorem yc {t:Ty} {l:List t.T} {i:Nat} (h:t.sc = true):∀ d∈Go.Ax.els t l i,d.scal = true:=DO t _ h
def Iy (H:ab) (o k:Nat):Bool:=match ab.get H o with | some (.row _ t _)=>Nat.beq t.k k&&t.sc | _=>false
mutual
def newV (H:ab):V→Bool
 | .c d=>d.scal
 | .agg vs=>newVs H vs
 | .tup vs=>newVs H vs
 | .row o k=>Iy H o k
 | .sub o k _ _=>Iy H o k
 | _=>false
def newVs (H:ab):List V→Bool
 | []=>true
 | v :: r=>newV H v&&newVs H r
end
def pc:gW→ab→V→Prop
 | .data d,H,v=>VLe (v.view H) d
 | .new d,H,v=>VLe (v.view H) d∧newV H v = true
 | .own fr e t l,H,v=>(v = .c .nil∧l = [])∨∃ o,v = .row o t.k∧ab.get H o = some (.row e t l)∧(fr = true→t.sc = true)
section
variable {P:Program} {N:Nat} {B:eL} {σ:St} {E:ar} {a:Act} {w:World} {C:FuncId→Option CC}
theorem mh:∀ (vs:List V) (i t:Nat) (s:az),au (iY vs i) t = some s→∃ v,i≤t∧vs[t - i]? = some v∧s = ⟨[],v⟩
 | [],i,t,s,h=>by simp [iY,au] at h
 | v :: r,i,t,s,h=>by
  rw [iY,aY] at h
  split at h
  ·next e=>subst e;cases h;exact ⟨v,Nat.le_refl _,by simp,rfl⟩
  ·next e =>
   obtain ⟨u,h1,h2,h3⟩:=mh r (i+1) t s h
   refine ⟨u,by omega, ?_,h3⟩
   rw [show t - i = (t - (i+1))+1 by omega]
   simpa using h2
theorem KT {ok:Nat→Prop} {xs:List Value} {vs:List V} (hx:aI (dw ok) w xs vs) (hok:∀ b,ok b→b < w.heap.size) (hN:vs.length≤N) (hsm:N≤1000000) :
  bd N ⟨w,ok,fun _=>False,fun _=>undef⟩ { tm:=iY vs 0,hp:=[],nx:=0 } (dw ok) { tmps:=xs.toArray++Array.replicate (N - xs.toArray.size) undef,defers:=[] } w:=by
 have hl:=hx.1
 refine ⟨?_,hsm,rfl,fun q _ h=>h,⟨fun o ob h=>?_,fun o o' b h=>h.elim,fun o b h=>h.elim,fun o b h=>h.elim,hok⟩,fun t s hg=>?_, .refl _ _ _,fun o b h=>h.elim,fun b h=>.inl h⟩
 ·simp;omega
 ·simp [ab.get] at h
 ·obtain ⟨v,_,h2,rfl⟩:=mh vs 0 t s hg
  rw [Nat.sub_zero] at h2
  have hlt:t < xs.length:=by rw [hl];exact (List.getElem?_eq_some_iff.1 h2).1
  have hget:(xs.toArray++Array.replicate (N - xs.toArray.size) undef).getD t undef = xs[t]:=by
   rw [Array.getD_eq_getD_getElem?,Array.getElem?_append_left (by simpa using hlt)]
   simp [hlt]
  refine ⟨fun _=>?_,fun _ h=>by simp [holds] at h⟩
  rw [jP (by omega)]
  simp only
  rw [hget]
  exact hx.2 t _ v (List.getElem?_eq_getElem hlt) h2
theorem Kh {H:ab} (hH:aw E w H) {t:TypeId} {x:Value} {vx:V} {r:aB} (hx:af E w x vx) (h:mi P H t vx = some r) (hp:∀ p∈r.pre,p) :
  ∃ ad v,x = .pointer (some ad)∧(loadVar t ad).run P w = .ok v w∧af E w v r.val:=by
 obtain ⟨ad,had⟩:∃ ad,x = .pointer (some ad):=by
  unfold mi at h
  split at h
  ·cases hx with | ptr o k i j b h1 h2 h3=>exact ⟨_,rfl⟩
  ·cases hx with | dptr k cs j ad u h1 h2 h3 h4=>exact ⟨_,rfl⟩
  ·cases h
 obtain ⟨_,_,v,hrun,hrep⟩:=zg (ρ:=fun _=>x) (o:={ (default:Oper) with op:=.load t (.const x) }) hH rfl hx h hp
 refine ⟨ad,v,had, ?_,hrep⟩
 subst had
 simp only [execOp,Instr.loadAt,Instr.sureAddr] at hrun
 simp at hrun
 cases hl:(loadVar t ad).run P w with
 | ok u w'=>rw [hl] at hrun;simp at hrun;rw [hrun.1,hrun.2]
 | halt y w'=>rw [hl] at hrun;simp at hrun
theorem F7 {g:ResultVar→Sem Value}:∀ (rs:List ResultVar) (hg:∀ r∈rs, ∀ d,EV P σ r = some d→∃ u,(g r).run P w = .ok u w∧af E w u d) (ds:List V),rs.mapM (EV P σ) = some ds→∃ us,(rs.mapM g).run P w = .ok us w∧aI E w us ds:=by
 intro rs
 induction rs with
 | nil=>intro _ ds h;simp at h;subst h;exact ⟨[],by simp, .nil⟩
 | cons r rs ih =>
  intro hg ds h
  have ih:=ih fun r' hr'=>hg r' (by simp [hr'])
  rw [List.mapM_cons] at h
  simp only [Option.bind_eq_bind,Option.pure_def,Option.bind_eq_some_iff,Option.some.injEq] at h
  obtain ⟨d,hd,ds',hds,rfl⟩:=h
  obtain ⟨u,h1,h2⟩:=hg r (by simp) d hd
  obtain ⟨us,h3,h4⟩:=ih ds' hds
  refine ⟨u :: us, ?_,by simp [h4.1],fun i v d' hv hd'=>?_⟩
  ·rw [List.mapM_cons]
   simp only [Sem.run_bind,Sem.run_pure]
   rw [h1]
   simp only [Result.andThen_ok]
   rw [h3]
   simp
  ·match i with
   | 0=>simp at hv hd'; subst hv;subst hd'; exact h2
   | i+1=>exact h4.2 i v d' (by simpa using hv) (by simpa using hd')
theorem Gg {fn:Func} {g:ResultVar→Sem Value} (hg:∀ r∈fn.results.toList, ∀ d,EV P σ r = some d→∃ u,(g r).run P w = .ok u w∧af E w u d) {v:V} (h:kP P σ fn.results.toList = some v) :
  ∃ u,(fn.results.mapM g >>= fun vs=>pure (if h:vs.size = 1 then vs[0] else Value.tuple vs):Sem Value).run P w = .ok u w∧af E w u v:=by
 unfold kP at h
 rw [Array.mapM_eq_mapM_toList]
 split at h
 ·next d hd =>
  cases h
  obtain ⟨us,h1,h2⟩:=F7 _ hg _ hd
  obtain ⟨u,rfl⟩:∃ u,us = [u]:=by
   have:=h2.1
   match us,this with
   | [u],_=>exact ⟨u,rfl⟩
  refine ⟨u, ?_,h2.2 0 u _ rfl rfl⟩
  simp only [Sem.run_bind,Sem.run_map]
  rw [h1]
  simp
 ·next ds hne hd =>
  cases h
  obtain ⟨us,h1,h2⟩:=F7 _ hg _ hd
  refine ⟨.tuple us.toArray, ?_, .tup _ _ h2.1 h2.2⟩
  have hne1:us.length≠1:=by
   rw [h2.1]
   intro h
   match ds,h with
   | [d],_=>exact hne d rfl
  simp only [Sem.run_bind,Sem.run_map]
  rw [h1]
  simp [hne1]
 ·cases h
theorem xB {fn:Func} (hs:bd N B σ E a w) {v:V} (h:kP P σ fn.results.toList = some v) (hp:∀ x∈fn.results.toList,vK P σ x):∃ u,(results fn a.tmps).run P w = .ok u w∧af E w u v:=by
 refine Gg (fn:=fn) (fun r hr0 d h=>?_) h
 have hp:=hp r hr0
 cases r with
 | tmp t =>
  exact ⟨_,rfl,bX hs (ch:=[]) (x:=.tmp t) rfl h⟩
 | cell s T =>
  simp only [EV] at h
  split at h
  ·next x hx =>
   split at h
   ·next r hr =>
    cases h
    have hrx:af E w (a.tmps.getD s undef) x:=bX hs (ch:=[]) rfl hx
    obtain ⟨ad,v,e,h1,h2⟩:=Kh hs.heap hrx hr (hp x r hx hr)
    refine ⟨v, ?_,h2⟩
    simp [e,asAddr,h1]
   ·cases h
  ·cases h
theorem qP {ok ok':Nat→Prop} {v:Value} {d:D} (h:aG ok w v d) (hs:d.scal = true):aG ok' w v d:=by
 cases d with
 | unk=>exact .unk _
 | nil=>cases h;exact .nil
 | lit u=>cases h;exact .lit _
 | opt b us=>cases h;exact .opt _ _
 | any=>cases h with | any _ h1=>exact .any _ h1
 | sl=>simp [D.scal] at hs
theorem wy:∀ {H:ab} {vs:List V},newVs H vs = true→∀ (i:Nat) (v:V),vs[i]? = some v→newV H v = true
 | _,[],_,i,v,h=>by simp at h
 | H,x :: xs,hn,i,v,h=>by
  rw [newVs,Bool.and_eq_true] at hn
  match i with
  | 0=>simp at h;subst h;exact hn.1
  | i+1=>exact wy hn.2 i v (by simpa using h)
theorem Lw {H:ab} {ok':Nat→Prop} (hH:aw E w H) (hown:∀ q b,(∃ e t l,ab.get H q = some (.row e t l))→E.conc q = some b→ok' b) {v:Value} {d:V} (h:af E w v d):newV H d = true→af (dw ok') w v (d.view H):=by
  induction h with
  | c v d h =>
    intro hn
    exact .c _ _ (qP h (by simpa [newV] using hn))
  | agg vs ds hl h ih =>
    intro hn
    rw [newV] at hn
    rw [V.view]
    refine .agg _ _ (by rw [fy,hl]) fun i v d hv hd'=>?_
    rw [jy] at hd'
    cases hx:ds[i]? with
    | none=>rw [hx] at hd'; cases hd'
    | some x=>rw [hx] at hd'; cases hd'; exact ih i v x hv hx (wy hn i x hx)
  | tup vs ds hl h ih =>
    intro hn
    rw [newV] at hn
    rw [V.view]
    refine .tup _ _ (by rw [fy,hl]) fun i v d hv hd'=>?_
    rw [jy] at hd'
    cases hx:ds[i]? with
    | none=>rw [hx] at hd'; cases hd'
    | some x=>rw [hx] at hd'; cases hd'; exact ih i v x hv hx (wy hn i x hx)
  | ptr o' k i j b hn hb hi=>intro h;cases h
  | row o' k a n c hn hl hc hm h0 =>
    intro hnew
    rw [newV] at hnew
    unfold Iy at hnew
    split at hnew
    · next e t l hg =>
      rw [Bool.and_eq_true] at hnew
      have hk:t.k = k:=Nat.eq_of_beq_eq_true hnew.1
      subst hk
      rw [V.view]
      unfold pP
      rw [hg]
      simp only [show Nat.beq t.k t.k = true by simp,cond_true]
      have hr:af E w (.slice a n c) (.row o' t.k):=.row o' t.k a n c hn hl hc hm h0
      have has:bN H t (.row o' t.k) = some (l):=by simp [bN,hg,kf]
      obtain ⟨news,hsrc⟩:=l6 hH hr has
      have hE:∃ E2:ar,EA E2 w (.slice a n c) t.k (l).length (Go.Ax.els t (l)) news∧(∀ b,E2.ok b→ok' b)∧(∀ q b,E2.live q→E2.conc q = some b→ok' b):=by
        refine ⟨{ E with ok:=ok',live:=fun _=>False }, ?_,fun _ h=>h,fun _ _ h=>h.elim⟩
        exact { hsrc with
          blk:=fun ad n' c' he hn'=>by
            cases he
            rcases h0 with ⟨h0,_⟩ | ⟨b,hb,hab,_⟩
            · cases h0
            · cases hab
              exact .inl (hown o' b ⟨e,t,l,hg⟩ hb)
          rep:=fun i j d u hi hd hu=>qP (hsrc.rep i j d u hi hd hu) (yc hnew.2 d (List.mem_of_getElem? hd)) }
      obtain ⟨E2,hsrc2,hok2,hown2⟩:=hE
      exact .c _ _ (pn hok2 hown2 hsrc2)
    · cases hnew
  | sub o' k off n a c hn hc hm hl ha =>
    intro hnew
    rw [newV] at hnew
    unfold Iy at hnew
    split at hnew
    · next e t l hg =>
      rw [Bool.and_eq_true] at hnew
      have hk:t.k = k:=Nat.eq_of_beq_eq_true hnew.1
      subst hk
      rw [V.view]
      unfold pH
      rw [hg]
      simp only [show Nat.beq t.k t.k = true by simp,cond_true]
      have hr:af E w (.slice a n c) (.sub o' t.k off n):=.sub o' t.k off n a c hn hc hm hl ha
      have has:bN H t (.sub o' t.k off n) = some (aj l off n):=by simp [bN,hg,kf]
      obtain ⟨news,hsrc⟩:=l6 hH hr has
      have hE:∃ E2:ar,EA E2 w (.slice a n c) t.k (aj l off n).length (Go.Ax.els t (aj l off n)) news∧(∀ b,E2.ok b→ok' b)∧(∀ q b,E2.live q→E2.conc q = some b→ok' b):=by
        refine ⟨{ E with ok:=ok',live:=fun _=>False }, ?_,fun _ h=>h,fun _ _ h=>h.elim⟩
        exact { hsrc with
          blk:=fun ad n' c' he hn'=>by
            cases he
            have hn0:0 < n:=by
              have:(aj l off n).length≤n:=by simp [aj];omega
              have:=hn'
              omega
            obtain ⟨b,hb,hab⟩:=ha hn0
            cases hab
            exact .inl (hown o' b ⟨e,t,l,hg⟩ hb)
          rep:=fun i j d u hi hd hu=>qP (hsrc.rep i j d u hi hd hu) (yc hnew.2 d (List.mem_of_getElem? hd)) }
      obtain ⟨E2,hsrc2,hok2,hown2⟩:=hE
      exact .c _ _ (pn hok2 hown2 hsrc2)
    · cases hnew
  | dptr k cs j ad u hok' hcell hl hu=>intro h;cases h
  | fn f vs ds hl h ih=>intro h;cases h
theorem KU {ok:Nat→Prop} {W:World} (hs:bd N ⟨W,ok,fun _=>False,fun _=>undef⟩ σ E a w) {u:Value} {v:V} (hr:af E w u v) {out:gW} (ho:pc out σ.hp v):tV ok W w u out:=by
 have hsown:∀ o b,E.live o→E.conc o = some b→W.heap.size≤b:=fun o b h1 h2=>(hs.own o b h1 h2).resolve_right (fun h=>h)
 have hE:∀ b,E.ok b→ok b∨(W.heap.size≤b∧b < w.heap.size):=by
  intro b hb
  rcases hs.okold b hb with h | h | h
  ·exact .inl h
  ·exact .inr ⟨h,hs.heap.oklt b hb⟩
  ·exact h.elim
 cases out with
 | data d =>
  simp only [pc] at ho
  exact (yM hs.heap (ok':=fun b=>ok b∨(W.heap.size≤b∧b < w.heap.size)) hE hr (.inl fun q b hq hb=>.inr ⟨hsown q b hq hb,hs.heap.lt q b hq hb⟩)).le ho
 | new d =>
  simp only [pc] at ho
  refine (Lw hs.heap (ok':=fun b=>(W.heap.size≤b∧b < w.heap.size)∧∃ C t,w.heap[b]? = some (.cells C t (0,0))) (fun q b ⟨e,t,l,hg⟩ hb=>?_) hr ho.2).le ho.1
  obtain ⟨hq,hat⟩:=hs.heap.at_ q _ hg
  refine ⟨⟨hsown q b hq hb,hs.heap.lt q b hq hb⟩, ?_⟩
  rcases hat.2 with ⟨h1,_⟩ | ⟨b',C,h1,h2,_⟩
  ·rw [hb] at h1;cases h1
  ·rw [hb] at h1
   cases h1
   exact ⟨C,e,h2⟩
 | own fr e t l =>
  simp only [pc] at ho
  rcases ho with ⟨rfl,rfl⟩ | ⟨o,rfl,hg,hfr⟩
  ·rw [hr.nil_inv]
   exact ⟨[],World.ownsRow_nil w _ e _,fun i j u hi=>by simp at hi,fun i j d u hi=>by simp at hi⟩
  obtain ⟨xs,h1,h2,h4,h5⟩:=Bu hs.heap hg hr
  have hlive:=(hs.heap.at_ _ _ hg).1
  refine ⟨xs, ?_,h4,fun i j d x hi hd hx=>?_⟩
  ·rcases h1 with ⟨g1,g2⟩
   refine ⟨g1, ?_⟩
   rcases g2 with g2 | ⟨g,cap,cur,e1,e2,e3⟩
   ·exact .inl g2
   ·refine .inr ⟨g,cap,cur,e1, ?_,e3⟩
    have:E.conc o = some g:=by rw [← h2,e1];rfl
    exact hsown o g hlive this
  ·have hrep:=h5 i j d x hi hd hx
   cases fr with
   | true=>exact qP hrep (yc (hfr rfl) d (List.mem_of_getElem? hd))
   | false =>
    refine aG.mono (ok:=E.ok) (w:=w) (w':=w) (fun b hb=>?_) (fun _ _=>rfl) hrep
    rcases hE b hb with h | ⟨h,h'⟩
    ·exact .inl ⟨rfl,h⟩
    ·refine .inr ⟨h,h',fun e=>?_⟩
     exact hs.heap.sep o b hlive (h2 ▸ e) hb
theorem eZ {f:FuncId} {fn:Func} {c:Code} (hf:P.funcs[f]? = some fn) (hb:fn.body = some c) (hn:(fn.name == "runtime.NumGoroutine") = false) (args:Array Value) (w:World):(callFunc f args).run P w = .ok (.enter f args) w:=by
 have h1:fn.name ≠ "runtime.NumGoroutine" := by simpa using hn
 simp [callFunc,hf,h1,hb,Sem.run]
end
end Go.Ax
namespace Go.Ax
open Go.RowKit
structure bh (P:Program) (N:Nat) (c:Code) (K:Exit→St→Prop) (σ:St):Prop where
  ok:∀ (B:eL) (E:ar) (a:Act) (w:World),bd N B σ E a w→c.wp P (KS N B K) a w
section
variable {P:Program} {C:FuncId→Option CC} {N:Nat} {c x y:Code} {K K':Exit→St→Prop} {σ σ':St}
theorem bh.mono (h:bh P N c K σ) (hk:∀ e σ,K e σ→K' e σ):bh P N c K' σ :=
 ⟨fun B E a w hs=>wp_mono (h.ok B E a w hs) fun _ _ _ ⟨σ',E',h1,h2⟩=>⟨σ',E',hk _ _ h1,h2⟩⟩
theorem bh.ent (he:cO σ σ') (h:bh P N c K σ'):bh P N c K σ :=
 ⟨fun B E a w hs=>by
  obtain ⟨E',hs'⟩:=he.sim N B E a w hs
  exact h.ok B E' a w hs'⟩
theorem bh.seq (h:bh P N x (IB (bh P N y K) K) σ):bh P N (.seq x y) K σ :=
 ⟨fun B E a w hs=>by
  refine wp_seq (wp_mono (h.ok B E a w hs) ?_)
  rintro e a' w' ⟨σ',E',hk,hs'⟩
  cases e with
  | normal=>exact hk.ok B E' a' w' hs'
  | exit id=>exact ⟨σ',E',hk,hs'⟩
  | goto l=>exact ⟨σ',E',hk,hs'⟩
  | ret=>exact ⟨σ',E',hk,hs'⟩
  | panic ch=>exact ⟨σ',E',hk,hs'⟩
  | outgrown=>exact ⟨σ',E',hk,hs'⟩⟩
theorem bh.block {id:Nat} (h:bh P N x (JR id K) σ):bh P N (.block id x) K σ :=
 ⟨fun B E a w hs=>by
  refine wp_block (wp_mono (h.ok B E a w hs) ?_)
  rintro e a' w' ⟨σ',E',hk,hs'⟩
  cases e with
  | normal=>exact ⟨σ',E',hk,hs'⟩
  | exit id' =>
   show if id' = id then KS N B K .normal a' w' else KS N B K (.exit id') a' w'
   simp only [JR] at hk
   by_cases hid:id' = id
   ·subst hid
    rw [show Nat.beq id' id' = true by simp,cond_true] at hk
    rw [if_pos rfl];exact ⟨σ',E',hk,hs'⟩
   ·rw [zy hid,cond_false] at hk
    rw [if_neg hid];exact ⟨σ',E',hk,hs'⟩
  | goto l=>exact ⟨σ',E',hk,hs'⟩
  | ret=>exact ⟨σ',E',hk,hs'⟩
  | panic ch=>exact ⟨σ',E',hk,hs'⟩
  | outgrown=>exact ⟨σ',E',hk,hs'⟩⟩
theorem bh.cond {o:Operand} {b:Bool} (hb:bC σ [] o = some (bl b)) (ht:b = true→bh P N x K σ) (hf:b = false→bh P N y K σ):bh P N (.cond o x y) K σ :=
 ⟨fun B E a w hs=>by
  have hv:a.eval o = .bool b:=(bX hs (ch:=[]) rfl hb).lit_inv
  exact wp_cond_split hv (fun h=>(ht h).ok B E a w hs) fun h=>(hf h).ok B E a w hs⟩
theorem bh.loop (I:Nat→St→Prop) (m:Nat) (σ0:St) (h1:cO σ σ0) (h2:I m σ0)
  (h3:∀ m σ,I m σ→bh P N x (IB (fun σ'=>∃ m' σ'',m' < m∧cO σ' σ''∧I m' σ'') K) σ):bh P N (.loop x) K σ :=
 ⟨fun B E a w hs=>by
  obtain ⟨E0,hs0⟩:=h1.sim N B E a w hs
  exact Mb (fun K σ=>bh P N x K σ) x (fun K σ E a w h hs=>h.ok B E a w hs) I K h3 m σ0 E0 a w h2 hs0⟩
theorem bh.skip (h:K .normal σ):bh P N .skip K σ:=⟨fun _ E _ _ hs=>wp_skip ⟨σ,E,h,hs⟩⟩
theorem bh.exit {id:Nat} (h:K (.exit id) σ):bh P N (.exit id) K σ:=⟨fun _ E _ _ hs=>wp_exit ⟨σ,E,h,hs⟩⟩
theorem bh.ret (h:K .ret σ):bh P N .ret K σ:=⟨fun _ E _ _ hs=>wp_ret ⟨σ,E,h,hs⟩⟩
end
theorem D6 {P:Program} {f:FuncId} {fn:Func} {c:Code} (hf:P.funcs[f]? = some fn) {con:G1} (hb:fn.body = some c) (hn:(fn.name == "runtime.NumGoroutine") = false)
  (h:∀ vs p out,con vs = some (p,out)→p = true→∃ vs',VLes vs vs'∧(vs'.length≤fn.ntmps∧fn.ntmps≤1000000)∧bh P fn.ntmps c (MR P fn.results.toList (pc out)) { tm:=iY vs' 0,hp:=[],nx:=0 }):Ic P f con:=by
 intro ok w xs vs p out hx hok hcon hp
 obtain ⟨vs',hle,hN,hrun⟩:=h vs p out hcon hp
 refine .inl ⟨eZ hf hb hn _ _, ?_⟩
 refine calls_of_wp hf hb (wp_mono (hrun.ok _ _ _ _ (KT (hx.le hle) hok hN.1 hN.2)) ?_)
 rintro e a' w' ⟨σ',E',hk,hs'⟩
 have key:(match kP P σ' fn.results.toList with | some v=>(∀ x∈fn.results.toList,vK P σ' x)∧pc out σ'.hp v | none=>False)→a'.defers = []∧∃ v,(results fn a'.tmps).run P w' = .ok v w'∧∃ v',Ending.returned v = .returned v'∧(Below w.heap.size w w'∧tV ok w w' v' out):=by
  intro hk
  split at hk
  ·next v hv =>
   obtain ⟨u,h1,h2⟩:=xB hs' hv hk.1
   exact ⟨hs'.defers,u,h1,u,rfl,hs'.base.below,KU hs' h2 hk.2⟩
  ·exact hk.elim
 cases e with
 | normal=>exact key hk
 | ret=>exact key hk
 | exit id=>exact hk.elim
 | goto l=>exact hk.elim
 | panic ch=>exact hk.elim
 | outgrown=>exact hk.elim
section
variable {σ σ':St}
def eu:List Nat→List (Nat × az)→List (Nat × az)
 | [],_=>[]
 | t :: r,tm=>match au tm t with | some s=>(t,s) :: eu r tm | none=>eu r tm
def m5:List Nat→ab→ab
 | [],_=>[]
 | o :: r,H=>match ab.get H o with | some b=>(o,some b) :: m5 r H | none=>m5 r H
def kx (o:Nat) (l:List Nat):Bool:=l.any fun q=>Nat.beq q o
def z6 (os:List Nat) (s:az):Bool:=s.ch.isEmpty&&(V.refs s.v).all fun o=>kx o os
def F5 (os:List Nat):Ob→Bool
 | .box cs=>(V.refss cs).all fun o=>kx o os
 | .iter m _ _=>(V.refs m).all fun o=>kx o os
 | .row ..=>true
 | .raw _=>true
 | .map ..=>true
def canon (ts os:List Nat) (nx:Nat) (σ:St):St:={ tm:=eu ts σ.tm,hp:=m5 os σ.hp,nx:=nx }
def A2 (ts os:List Nat) (nx:Nat) (σ:St):Bool :=
 (eu ts σ.tm).all (fun x=>z6 os x.2)&&(m5 os σ.hp).all (fun x=>match x.2 with | some b=>F5 os b | none=>false)&&os.all (fun o=>Nat.blt o nx)
theorem ir {o:Nat} {l:List Nat} (h:kx o l = true):o∈l:=by
 obtain ⟨q,hq,hb⟩:=List.any_eq_true.1 h
 rw [← Nat.eq_of_beq_eq_true hb];exact hq
theorem qE:∀ (ts:List Nat) (tm:List (Nat × az)) (t:Nat) (s:az),au (eu ts tm) t = some s→au tm t = some s∧(t,s)∈eu ts tm
 | [],tm,t,s,h=>by simp [eu,au] at h
 | q :: r,tm,t,s,h=>by
  unfold eu at h ⊢
  split at h
  ·next s' hs' =>
   rw [aY] at h
   skip
   split at h
   ·next e=>subst e;cases h;exact ⟨hs',by simp⟩
   ·have:=qE r tm t s h
    exact ⟨this.1,List.mem_cons_of_mem _ this.2⟩
  ·next hs' =>
   skip
   exact qE r tm t s h
theorem qS:∀ (os:List Nat) (H:ab) (o:Nat) (b:Ob),ab.get (m5 os H) o = some b→ab.get H o = some b∧(o,some b)∈m5 os H∧o∈os
 | [],H,o,b,h=>by simp [m5,ab.get] at h
 | q :: r,H,o,b,h=>by
  unfold m5 at h ⊢
  split at h
  ·next s' hs' =>
   rw [ab.get_cons] at h
   skip
   split at h
   ·next e=>subst e;cases h;exact ⟨hs',by simp,by simp⟩
   ·have:=qS r H o b h
    exact ⟨this.1,List.mem_cons_of_mem _ this.2.1,List.mem_cons_of_mem _ this.2.2⟩
  ·next hs' =>
   skip
   have:=qS r H o b h
   exact ⟨this.1,this.2.1,List.mem_cons_of_mem _ this.2.2⟩
theorem af.only {E:ar} {w:World} {os:List Nat} {v:Value} {d:V} (h:af E w v d):(∀ o∈V.refs d,o∈os)→af { E with live:=fun o=>E.live o∧o∈os } w v d:=by
 induction h with
 | c v d h=>exact fun _=>.c v d h
 | agg vs ds hl h ih =>
  intro hr
  exact .agg vs ds hl fun i v d hv hd=>ih i v d hv hd fun o ho=>hr o (bS hd ho)
 | tup vs ds hl h ih =>
  intro hr
  exact .tup vs ds hl fun i v d hv hd=>ih i v d hv hd fun o ho=>hr o (bS hd ho)
 | ptr o k i j b h1 h2 h3=>exact fun hr=>.ptr o k i j b ⟨h1,hr o (by simp [V.refs])⟩ h2 h3
 | row o k a n c hn hl hc hm h0=>exact fun hr=>.row o k a n c ⟨hn,hr o (by simp [V.refs])⟩ hl hc hm h0
 | sub o k off n a c hn hc hm hl ha=>exact fun hr=>.sub o k off n a c ⟨hn,hr o (by simp [V.refs])⟩ hc hm hl ha
 | dptr k cs j ad u h1 h2 h3 h4=>exact fun _=>.dptr k cs j ad u h1 h2 h3 h4
 | fn f vs ds hl h ih =>
  intro hr
  exact .fn f vs ds hl fun i v d hv hd=>ih i v d hv hd fun o ho=>hr o (bS hd ho)
theorem cO.canon (ts os:List Nat) (nx:Nat) (h:A2 ts os nx σ = true):cO σ (canon ts os nx σ):=by
 unfold A2 at h
 simp only [Bool.and_eq_true] at h
 obtain ⟨⟨h1,h2⟩,h3⟩:=h
 refine ⟨fun N B E a w hs=>⟨{ E with live:=fun o=>E.live o∧o∈os },hs.size,hs.small,hs.defers,fun q hq hl=>?_,⟨fun o ob ho=>?_,fun o o' b a b'=>hs.heap.inj o o' b a.1 b'.1,fun o b a=>hs.heap.sep o b a.1,fun o b a=>hs.heap.lt o b a.1,hs.heap.oklt⟩,fun t s hg=>?_,hs.base,fun o b a=>hs.own o b a.1,hs.okold⟩⟩
 ·have:=List.all_eq_true.1 h3 q hl.2
  simp only [Nat.blt_eq] at this
  have hq':nx≤q:=hq
  omega
 ·obtain ⟨g1,g2,g3⟩:=qS os σ.hp o ob ho
  obtain ⟨l1,l2⟩:=hs.heap.at_ o ob g1
  refine ⟨⟨l1,g3⟩, ?_⟩
  have hok:=List.all_eq_true.1 h2 _ g2
  cases ob with
  | box cs =>
   obtain ⟨e1,b,Cs,t,e2,e3,e4⟩:=l2
   refine ⟨e1,b,Cs,t,e2,e3,e4.1,fun i v d hv hd=>(e4.2 i v d hv hd).only fun q hq=>?_⟩
   exact ir (List.all_eq_true.1 hok q (bS hd hq))
  | row e t l=>exact l2
  | raw x=>exact l2
  | map=>exact l2
  | iter m s0 l0 =>
   obtain ⟨e1,b,bm,s,seen,c,e2,e3,e4,e5⟩:=l2
   exact ⟨e1,b,bm,s,seen,c,e2,e3,e4,e5.only fun q hq=>ir (List.all_eq_true.1 hok q hq)⟩
 ·obtain ⟨g1,g2⟩:=qE ts σ.tm t s hg
  have hok:=List.all_eq_true.1 h1 _ g2
  unfold z6 at hok
  simp only [Bool.and_eq_true,List.isEmpty_iff] at hok
  have hh:=hs.slots t s g1
  refine ⟨fun _=>(hh.1 (by rw [hok.1];rfl)).only fun q hq=>ir (List.all_eq_true.1 hok.2 q hq),fun _ h=>?_⟩
  rw [hok.1] at h
  simp [holds] at h
end
end Go.Ax
namespace Go.Ax
open Go.RowKit
def Ey:Ob→Ob→Prop
 | .box cs, .box cs'=>VLes cs cs'
 | .row e t l,b=>.row e t l = b
 | .raw x,b=>.raw x = b
 | .map t kt vt ks vs,b=>.map t kt vt ks vs = b
 | .iter m s l, .iter m' s' l'=>VLe m m'∧s = s'∧l = l'
 | _,_=>False
def ye (tm:List (Nat × az)):List (Nat × az)→Prop
 | []=>True
 | (t,s') :: r=>(match au tm t with | some s=>s.ch = []∧s'.ch = []∧VLe s.v s'.v | none=>False)∧ye tm r
def pD (H:ab):ab→Prop
 | []=>True
 | (_,none) :: _=>False
 | (o,some b') :: r=>(match ab.get H o with | some b=>Ey b b' | none=>False)∧pD H r
def MS (σ σ':St):Prop:=ye σ.tm σ'.tm∧pD σ.hp σ'.hp∧σ.nx≤σ'.nx
section
variable {σ σ':St} {E:ar} {a:Act} {w:World} {N:Nat} {B:eL}
theorem Ex:∀ {tm tm':List (Nat × az)},ye tm tm'→∀ t s',au tm' t = some s'→∃ s,au tm t = some s∧s.ch = []∧s'.ch = []∧VLe s.v s'.v
 | tm,[],_,t,s',h=>by simp [au] at h
 | tm,(q,x) :: r,hl,t,s',h=>by
  rw [ye] at hl
  rw [aY] at h
  split at h
  ·next e =>
   subst e;cases h
   have h1:=hl.1
   cases hg:au tm q with
   | none=>rw [hg] at h1;exact h1.elim
   | some s=>rw [hg] at h1;exact ⟨s,rfl,h1⟩
  ·exact Ex hl.2 t s' h
theorem Ft:∀ {H H':ab},pD H H'→∀ o b',ab.get H' o = some b'→∃ b,ab.get H o = some b∧Ey b b'
 | H,[],_,o,b',h=>by simp [ab.get] at h
 | H,(q,none) :: r,hl,o,b',h=>by simp [pD] at hl
 | H,(q,some x) :: r,hl,o,b',h=>by
  rw [pD] at hl
  rw [ab.get_cons] at h
  split at h
  ·next e =>
   subst e;cases h
   have h1:=hl.1
   cases hg:ab.get H q with
   | none=>rw [hg] at h1;exact h1.elim
   | some s=>rw [hg] at h1;exact ⟨s,rfl,h1⟩
  ·exact Ft hl.2 o b' h
theorem gJ.le {o:Nat} {b b':Ob} (h:gJ E w o b) (hl:Ey b b'):gJ E w o b':=by
 cases b with
 | box cs =>
  cases b' with
  | box cs' =>
   obtain ⟨e1,b,Cs,t,e2,e3,e4⟩:=h
   exact ⟨e1,b,Cs,t,e2,e3,e4.le hl⟩
  | row=>exact hl.elim
  | raw x=>exact hl.elim
  | map=>exact hl.elim
  | iter=>exact hl.elim
 | iter m s0 l0 =>
  cases b' with
  | iter m' s1 l1 =>
   obtain ⟨e1,b,bm,s,seen,c,e2,e3,e4,e5⟩:=h
   obtain ⟨hl,rfl,rfl⟩:=hl
   exact ⟨e1,b,bm,s,seen,c,e2,e3,e4,e5.le hl⟩
  | row=>exact hl.elim
  | raw x=>exact hl.elim
  | map=>exact hl.elim
  | box=>exact hl.elim
 | raw x=>have:Ob.raw x = b':=hl;subst this;exact h
 | map t kt vt ks vs=>have:Ob.map t kt vt ks vs = b':=hl;subst this;exact h
 | row e t l=>have:Ob.row e t l = b':=hl;subst this;exact h
theorem cO.le (h:MS σ σ'):cO σ σ':=by
 obtain ⟨h1,h2,h3⟩:=h
 refine ⟨fun N B E a w hs=>⟨E,hs.size,hs.small,hs.defers,fun q hq=>hs.live q (Nat.le_trans h3 hq),⟨fun o ob ho=>?_,hs.heap.inj,hs.heap.sep,hs.heap.lt,hs.heap.oklt⟩,fun t s hg=>?_,hs.base,hs.own,hs.okold⟩⟩
 ·obtain ⟨b,g1,g2⟩:=Ft h2 o ob ho
  obtain ⟨l1,l2⟩:=hs.heap.at_ o b g1
  exact ⟨l1,l2.le g2⟩
 ·obtain ⟨s',g1,g2,g3,g4⟩:=Ex h1 t s hg
  have hh:=hs.slots t s' g1
  refine ⟨fun _=>(hh.1 (by rw [g2];rfl)).le g4,fun _ h=>?_⟩
  rw [g3] at h
  simp [holds] at h
theorem cO.to (ts os:List Nat) (nx:Nat) (h:A2 ts os nx σ = true) (hl:MS (Go.Ax.canon ts os nx σ) σ'):cO σ σ':=(cO.canon ts os nx h).trans (.le hl)
theorem cO.nilrow (t o:Nat) (e:TypeId) (ty:Ty) (hn:σ.nx≤o) (hg:au σ.tm t = some ⟨[], .c .nil⟩):cO σ { tm:=(t,⟨[], .row o ty.k⟩) :: σ.tm,hp:=(o,some (.row e ty [])) :: σ.hp,nx:=o+1 }:=by
 refine ⟨fun N B E a w hs=>?_⟩
 have hf:¬ E.live o:=hs.live o hn
 have hS:cQ E w [] (E.next o none 0 0 E.ok) w:=ck hf none 0 0 E.ok (.refl _ _) (by simp) (fun _ h=>h) (fun _ h=>.inl h)
 have hN:aw (E.next o none 0 0 E.ok) w σ.hp:=cB hf hs.heap (.refl _ _) (by simp) (fun _ h=>h) (fun _ h=>.inl h) hs.heap.oklt
 have hown:∀ q b,(E.next o none 0 0 E.ok).live q→(E.next o none 0 0 E.ok).conc q = some b→B.W.heap.size≤b∨B.mb b:=by
  intro q b ho h
  rcases hS.concnew q b ho h with ⟨q,h1,h2⟩ | h
  ·exact hs.own q b h1 h2
  ·have:=hs.base.size;exact .inl (by omega)
 have hslot:∀ q s,au σ.tm q = some s→(holds σ.tm s.ch = true→af (E.next o none 0 0 E.ok) w (cA B a q) s.v):=fun q s hg' h=>fk hs.heap hS ((hs.slots q s hg').1 h)
 have hbool:∀ q,aW (au ((t,(⟨[], .row o ty.k⟩:az)) :: σ.tm) q) = aW (au σ.tm q):=by
  intro q
  rw [aY]
  split
  ·next e=>subst e;rw [hg];rfl
  ·rfl
 refine ⟨_,hs.size,hs.small,hs.defers,fun q hq=>?_,⟨fun q ob ho=>?_,hN.inj,hN.sep,hN.lt,hN.oklt⟩,fun q s hq=>?_,hs.base,hown,hs.okold⟩
 ·have hq':o+1≤q:=hq
  rintro (h | h)
  ·omega
  ·exact hs.live q (by omega) h
 ·rw [ab.get_cons] at ho
  split at ho
  ·next e'=>subst e'; cases ho;exact ⟨.inl rfl,by simp [ar.next], .inl ⟨by simp [ar.next],rfl⟩⟩
  ·exact hN.at_ q ob ho
 ·rw [aY] at hq
  split at hq
  ·next e' =>
   subst e'; cases hq
   refine ⟨fun _=>?_,fun _ h=>by simp [holds] at h⟩
   have hv:=(hs.slots t _ hg).1 rfl
   have:cA B a t = .slice none 0 0:=hv.nil_inv
   simp only
   rw [this]
   exact .row o ty.k none 0 0 (.inl rfl) (by simp [ar.next]) (Nat.le_refl _) (by simp [maxLen]) (.inl ⟨rfl,rfl,rfl,by simp [ar.next]⟩)
  ·refine e8 (tm:=σ.tm) ⟨hslot q s hq,(hs.slots q s hq).2⟩ fun x _ _=>hbool x.1
end
section
variable {P:Program} {C:FuncId→Option CC} {fn:Func} {vs:List V} {Q Q':ab→V→Prop}
mutual
theorem VLe.rfl':∀ v:V,VLe v v
 | .c d=>by
  rw [VLe];exact .refl _
 | .agg vs=>by rw [VLe];exact VLes.rfl' vs
 | .tup vs=>by rw [VLe];exact VLes.rfl' vs
 | .ptr ..=>by simp [VLe]
 | .row ..=>by simp [VLe]
 | .sub ..=>by simp [VLe]
 | .dptr ..=>by rw [VLe];exact ⟨rfl,rfl, .refl _⟩
 | .fn f vs=>by rw [VLe];exact ⟨rfl,VLes.rfl' vs⟩
theorem VLes.rfl':∀ vs:List V,VLes vs vs
 | []=>trivial
 | v :: r=>⟨VLe.rfl' v,VLes.rfl' r⟩
end
end
section
variable {P:Program} {C:FuncId→Option CC} {N:Nat} {c:Code} {K:Exit→St→Prop} {σ:St}
end
end Go.Ax
