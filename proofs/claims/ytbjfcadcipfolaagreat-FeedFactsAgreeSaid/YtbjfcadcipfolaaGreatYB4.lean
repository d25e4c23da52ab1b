import Derived.Test.YtbjfcadcipfolaaGreatYB3
set_option linter.all false
/- A region that draws its order: whatever the order, it ends as the text's order ends. -/
namespace Go.Ax
open Go.RowKit
section
variable {P:Program} {N:Nat} {B:fh} {σ σ':St} {E:au} {a:Act} {w:World} {C:FuncId→Option CC} {all:List Oper}
structure l8 (σ σ':St):Prop where
  tm:∀ t,aw σ.tm t = aw σ'.tm t
  hp:∀ o,ae.get σ.hp o = ae.get σ'.hp o
theorem l8.refl (σ:St):l8 σ σ:=⟨fun _=>rfl,fun _=>rfl⟩
theorem l8.symm (h:l8 σ σ'):l8 σ' σ:=⟨fun t=>(h.tm t).symm,fun o=>(h.hp o).symm⟩
theorem l8.trans {σ'':St} (h:l8 σ σ') (h':l8 σ' σ''):l8 σ σ'':=⟨fun t=>(h.tm t).trans (h'.tm t),fun o=>(h.hp o).trans (h'.hp o)⟩
theorem l8.after (h:l8 σ σ') (r:bA):l8 (after σ r) (after σ' r) :=
 ⟨fun t=>by rw [ia,ia,h.tm t],fun o=>by rw [hZ,hZ,h.hp o]⟩
theorem l8.recOk (h:l8 σ σ') {nid:Nat} {o:Oper} {rc:bA} (hr:eX P C N all σ nid o rc):eX P C N all σ' nid o rc∧holds σ'.tm rc.ch = holds σ.tm rc.ch :=
 hr.congr (fun t _=>(h.tm t).symm) ⟨fun o _=>h.hp o,fun _ _ _ _ q _=>h.hp q,fun _ _ _ _ _ _ q _=>h.hp q⟩
theorem uG (kl:List Nat):∀ cs:List V,cD kl (some (.box cs)) = some (.box (cs.map (V.killAll kl))):=by
 have hk:∀ (o:Nat) (cs:List V),V.kills o cs = cs.map (V.kill o):=by
  intro o cs
  induction cs with
  | nil=>rfl
  | cons v r ih=>rw [V.kills,ih];rfl
 induction kl with
 | nil=>intro cs;simp [cD,V.killAll]
 | cons o r ih =>
  intro cs
  rw [cD,mn,ih,hk,List.map_map]
  rfl
theorem uS (kl:List Nat) (e:TypeId) (t:Ty) (l:List t.T):cD kl (some (.row e t l)) = some (.row e t l):=by
 induction kl with
 | nil=>rfl
 | cons o r ih=>rw [cD];exact ih
theorem uB (kl:List Nat) (x:Obj):cD kl (some (.raw x)) = some (.raw x):=by
 induction kl with
 | nil=>rfl
 | cons o r ih=>rw [cD];exact ih
theorem uZ (kl:List Nat) (t:TypeId) (kt vt:Ty) (ks:List kt.T) (vs:List vt.T):cD kl (some (.map t kt vt ks vs)) = some (.map t kt vt ks vs):=by
 induction kl with
 | nil=>rfl
 | cons o r ih=>rw [cD];exact ih
theorem tg (kl:List Nat) (s:Int) (l:List Int):∀ m:V,cD kl (some (.iter m s l)) = some (.iter (V.killAll kl m) s l):=by
 induction kl with
 | nil=>intro m;rfl
 | cons o r ih =>
  intro m
  rw [cD,mn,ih]
  rfl
theorem sR (kl:List Nat):cD kl none = none:=by
 induction kl with
 | nil=>rfl
 | cons o r ih=>rw [cD];exact ih
theorem qN {kl:List Nat} {b:Option Ob} (h:∀ q∈o7 b,q ∉ kl):cD kl b = b:=by
 cases b with
 | none=>exact sR kl
 | some b =>
  cases b with
  | row e t l=>exact uS kl e t l
  | raw x=>exact uB kl x
  | map t kt vt ks vs=>exact uZ kl t kt vt ks vs
  | iter m s0 l0=>rw [tg,ji kl m h]
  | box cs =>
   rw [uG]
   congr 2
   have:∀ l:List V,(∀ q∈V.refss l,q ∉ kl)→l.map (V.killAll kl) = l:=by
    intro l
    induction l with
    | nil=>intro _;rfl
    | cons v r ih =>
     intro hl
     rw [List.map_cons,ji kl v fun q hq=>hl q (by simp [V.refss,hq]),ih fun q hq=>hl q (by simp [V.refss,hq])]
   exact this cs h
theorem GO {kl:List Nat} {b:Option Ob} (h:G4 (cD kl b) = true):cD kl b = b:=by
 cases b with
 | none=>exact sR kl
 | some b =>
  cases b with
  | row e t l=>exact uS kl e t l
  | raw x=>exact uB kl x
  | map t kt vt ks vs=>exact uZ kl t kt vt ks vs
  | iter m s0 l0 =>
   rw [tg] at h ⊢
   rw [mE kl m h]
  | box cs =>
   rw [uG] at h ⊢
   congr 2
   have:∀ l:List V,V.noUnks (l.map (V.killAll kl)) = true→l.map (V.killAll kl) = l:=by
    intro l
    induction l with
    | nil=>intro _;rfl
    | cons v r ih =>
     intro hl
     rw [List.map_cons,V.noUnks,Bool.and_eq_true] at hl
     rw [List.map_cons,mE kl v hl.1,ih hl.2]
   exact this cs h
theorem Bb {H:ae} {q:Nat}:∀ p∈o7 (ae.get H q),p∈zR H:=by
 induction H with
 | nil=>intro p hp;simp [ae.get,o7] at hp
 | cons x H ih =>
  obtain ⟨o,b⟩:=x
  intro p hp
  rw [ae.get_cons] at hp
  unfold zR
  rw [List.flatMap_cons,List.mem_append]
  split at hp
  ·exact .inl hp
  ·exact .inr (ih p hp)
theorem oY (dst:Option Nat) (kl:List Nat) (s:aF):oK dst ⟨s.ch,s.v.killAll kl⟩ = ⟨(oK dst s).ch,(oK dst s).v.killAll kl⟩:=by
 unfold oK
 cases dst with
 | none=>rfl
 | some d =>
  simp only
  cases s.ch.any (fun y=>Nat.beq y.1 d) with
  | false=>rfl
  | true =>
   simp only [cond_true]
   have:∀ kl:List Nat,(V.c D.unk).killAll kl = V.c D.unk:=by
    intro kl
    induction kl with
    | nil=>rfl
    | cons o r ih=>rw [V.killAll,V.kill,ih]
   rw [this]
theorem KR (d d':Option Nat) (s:aF):oK d (oK d' s) = oK d' (oK d s):=by
 unfold oK
 cases d with
 | none=>rfl
 | some d =>
  cases d' with
  | none=>rfl
  | some d' =>
   simp only
   cases h1:s.ch.any (fun y=>Nat.beq y.1 d) <;> cases h2:s.ch.any (fun y=>Nat.beq y.1 d') <;> simp [h1,h2]
theorem Hr {d:Option Nat} {s:aF} (h:∀ x∈s.ch,x.1 ∉ lZ d):oK d s = s:=by
 unfold oK
 cases d with
 | none=>rfl
 | some d =>
  simp only
  have:s.ch.any (fun z=>Nat.beq z.1 d) = false:=by
   refine List.any_eq_false.2 fun x hx=>?_
   intro hb
   exact h x hx (by simp [lZ,Nat.eq_of_beq_eq_true hb])
  rw [this]
  rfl
structure RD (x y:bA):Prop where
  rds:∀ t,t∈lZ x.dst→t ∉ y.rds
  dst:∀ t,t∈lZ x.dst→t ∉ lZ y.dst
  reach:∀ q,q∈cW x.res.eff→q ∉ y.reach
  keys:∀ q,q∈cW x.res.eff→q ∉ cW y.res.eff
  kill:x.res.kill = []∨((y.rws.1 = true∧∀ q∈x.res.kill,q ∉ y.reach∧q ∉ y.res.val.refs)∧(∀ q∈x.res.kill,q ∉ y.rws.2∧q ∉ zR y.res.eff)∧y.res.kill = [])
  killv:∀ q,q∈x.res.kill→q ∉ V.refss y.vs
theorem Dm {x y:bA} (h:G2 x y = true):RD x y:=by
 unfold G2 at h
 simp only [Bool.and_eq_true,Bool.or_eq_true,List.isEmpty_iff,Bool.not_eq_true'] at h
 obtain ⟨⟨h1,h2⟩,h3⟩:=h
 have g1:=kM h1
 have g2:=kM h2
 refine ⟨fun t ht hn=>g1 t ht (List.mem_append_left _ hn),fun t ht hn=>g1 t ht (List.mem_append_right _ hn),fun q hq hn=>g2 q hq (List.mem_append_left _ hn),fun q hq hn=>g2 q hq (List.mem_append_right _ hn), ?_,fun q hq hn=>?_⟩
 rotate_left
 ·rcases h3 with h3 | ⟨⟨a1,a2⟩,a4⟩
  ·rw [h3] at hq;cases hq
  ·exact kM a2 q hq (by simp [hn])
 rcases h3 with h3 | ⟨⟨a1,a2⟩,a4⟩
 ·exact .inl h3
 ·refine .inr ⟨⟨a1,fun q hq=>⟨fun hn=>kM a2 q hq ?_,fun hn=>kM a2 q hq ?_⟩⟩,fun q hq=>⟨fun hn=>kM a2 q hq ?_,fun hn=>kM a2 q hq ?_⟩,a4⟩ <;> simp [hn]
theorem swap {nj ni:Nat} {oj oi:Oper} {rj ri:bA} (hj:eX P C N all σ nj oj rj) (hi:eX P C N all (after σ rj) ni oi ri) (hind:ry rj ri = true) :
  eX P C N all σ ni oi ri∧eX P C N all (after σ ri) nj oj rj∧l8 (after (after σ ri) rj) (after (after σ rj) ri)∧holds σ.tm ri.ch = holds (after σ rj).tm ri.ch∧holds (after σ ri).tm rj.ch = holds σ.tm rj.ch:=by
 unfold ry at hind
 simp only [Bool.and_eq_true] at hind
 obtain ⟨⟨⟨hb1,hb2⟩,hnj⟩,hni⟩:=hind
 have bji:=Dm hb1
 have bij:=Dm hb2
 have back:=hi.congr (σ':=σ) (fun t ht=>by
   obtain ⟨s,g1,g2,_,_⟩:=hi.slots hni ht
   rw [Nf g1 (fun hd=>bji.rds t hd ht) g2,g1])
  (A5 fun q hq=>by
   obtain ⟨_,e,e'⟩:=hi.parts
   have hq':=hq
   rw [← e] at hq
   rcases bji.kill with hk | ⟨⟨hk,_⟩,_⟩
   ·rw [hZ,if_neg (fun hk=>bji.reach q hk hq),hk];rfl
   ·rw [e'] at hk
    have hrow:=List.all_eq_true.1 hk q hq'
    rw [hZ,if_neg (fun hk=>bji.reach q hk hq)] at hrow ⊢
    exact GO hrow)
 have forth:=hj.congr (σ':=after σ ri) (fun t ht=>by
   obtain ⟨s,g1,_,g3,g4⟩:=hj.slots hnj ht
   rw [g1]
   refine MK g1 (fun hd=>bij.rds t hd ht) ?_ fun x hx hd=>bij.rds _ hd (g3 x hx)
   intro q hq hqk
   rcases bij.kill with hk | ⟨⟨_,hk⟩,_⟩
   ·rw [hk] at hqk;simp at hqk
   ·exact bij.killv q hqk (g4 q hq))
  (A5 fun q hq=>by
   obtain ⟨_,e,e'⟩:=hj.parts
   have hq':=hq
   rw [← e] at hq
   rw [hZ,if_neg (fun hk=>bij.reach q hk hq)]
   rcases bij.kill with hk | ⟨_,hk,_⟩
   ·rw [hk];rfl
   ·refine (qN fun p hp hpk=>(hk p hpk).1 ?_).symm
    rw [e']
    exact List.mem_flatMap.2 ⟨q,hq',hp⟩)
 refine ⟨back.1,forth.1,⟨fun t=>?_,fun q=>?_⟩,back.2,forth.2⟩
 ·have chi:∀ x∈ri.ch,x.1 ∉ lZ rj.dst:=fun x hx hd=>by
   exact bji.rds _ hd (hi.parts.1 x hx)
  have chj:∀ x∈rj.ch,x.1 ∉ lZ ri.dst:=fun x hx hd=>by
   exact bij.rds _ hd (hj.parts.1 x hx)
  have vi:ri.res.val.killAll rj.res.kill = ri.res.val:=by
   rcases bji.kill with hk | ⟨⟨_,hk⟩,_⟩
   ·rw [hk];rfl
   ·exact ji _ _ fun q hq hqk=>(hk q hqk).2 hq
  have vj:rj.res.val.killAll ri.res.kill = rj.res.val:=by
   rcases bij.kill with hk | ⟨⟨_,hk⟩,_⟩
   ·rw [hk];rfl
   ·exact ji _ _ fun q hq hqk=>(hk q hqk).2 hq
  rw [ia (σ:=after σ ri) rj t,ia (σ:=σ) ri t,ia (σ:=after σ rj) ri t,ia (σ:=σ) rj t]
  by_cases h1:ri.dst = some t
  ·have h2:¬ rj.dst = some t:=fun e=>bij.dst t (xm.2 h1) (xm.2 e)
   rw [if_pos h1,if_neg h2,if_pos h1]
   simp only [Option.map_some,vi]
   rw [Hr chi]
  ·by_cases h2:rj.dst = some t
   ·rw [if_pos h2,if_neg h1,if_pos h2]
    simp only [Option.map_some,vj]
    rw [Hr chj]
   ·rw [if_neg h2,if_neg h1,if_neg h1,if_neg h2]
    cases aw σ.tm t with
    | none=>rfl
    | some s =>
     simp only [Option.map_some,Option.some.injEq]
     rw [oY,oY,oY,oY]
     have hkk:rj.res.kill = []∨ri.res.kill = []:=by
      rcases bji.kill with hk | ⟨_,_,hk⟩
      ·exact .inl hk
      ·exact .inr hk
     rcases hkk with hk | hk
     ·rw [hk]
      simp only [V.killAll]
      rw [KR rj.dst ri.dst s]
     ·rw [hk]
      simp only [V.killAll]
      rw [KR rj.dst ri.dst s,oY rj.dst rj.res.kill s,oY ri.dst rj.res.kill (oK rj.dst s)]
 ·rw [hZ (σ:=after σ ri) rj q,hZ (σ:=σ) ri q,hZ (σ:=after σ rj) ri q,hZ (σ:=σ) rj q]
  by_cases h1:q∈cW ri.res.eff
  ·have h2:q ∉ cW rj.res.eff:=bij.keys q h1
   rw [if_neg h2,if_pos h1,if_pos h1]
   rcases bji.kill with hk | ⟨_,hk,_⟩
   ·rw [hk];rfl
   ·exact qN fun p hp hpk=>(hk p hpk).2 (Bb p hp)
  ·by_cases h2:q∈cW rj.res.eff
   ·rw [if_pos h2,if_neg h1,if_pos h2]
    rcases bij.kill with hk | ⟨_,hk,_⟩
    ·rw [hk];rfl
    ·exact (qN fun p hp hpk=>(hk p hpk).2 (Bb p hp)).symm
   ·rw [if_neg h2,if_neg h1,if_neg h1,if_neg h2]
    rcases bji.kill with hk | ⟨_,_,hk⟩
    ·rw [hk];rfl
    ·rw [hk];rfl
inductive jx (P:Program) (C:FuncId→Option CC) (N:Nat) (ops:Array Oper) (n0:Nat) (σf:St):St→List (Nat × bA)→Prop
  | done (σ:St) (h:l8 σ σf):jx P C N ops n0 σf σ []
  | step (σ:St) (i:Nat) (o:Oper) (r:bA) (L:List (Nat × bA)) (hi:ops[i]? = some o) (hr:eX P C N ops.toList σ (n0+8*i) o r) (hp:∀ p∈mO σ.tm r.ch r.res.pre,p)
      (h:jx P C N ops n0 σf (after σ r) L):jx P C N ops n0 σf σ ((i,r) :: L)
variable {ops:Array Oper} {n0:Nat} {σf:St}
theorem xq {tm tm':List (Nat × aF)} {ch:aN} (h:holds tm' ch = holds tm ch) (ps:List Prop):mO tm' ch ps = mO tm ch ps:=by
 unfold mO
 cases ch with
 | nil=>rfl
 | cons x l=>simp only [h]
theorem jx.eqv {L:List (Nat × bA)} (h:jx P C N ops n0 σf σ L):∀ {σ':St},l8 σ σ'→jx P C N ops n0 σf σ' L:=by
 induction h with
 | done σ h=>exact fun e=>.done _ (e.symm.trans h)
 | step σ i o r L hi hr hp h ih =>
  intro σ' e
  obtain ⟨h1,h2⟩:=e.recOk hr
  exact .step σ' i o r L hi h1 (by rw [xq h2];exact hp) (ih (e.after r))
theorem jx.swap {i j:Nat} {ri rj:bA} {L:List (Nat × bA)} (h:jx P C N ops n0 σf σ ((j,rj) :: (i,ri) :: L)) (hind:ry rj ri = true):jx P C N ops n0 σf σ ((i,ri) :: (j,rj) :: L):=by
 cases h with
 | step _ _ oj _ _ hj hrj hpj h =>
  cases h with
  | step _ _ oi _ _ hi hri hpi h =>
   obtain ⟨h1,h2,h3,h4,h5⟩:=Go.Ax.swap hrj hri hind
   exact .step σ i oi ri _ hi h1 (by rw [xq h4];exact hpi) (.step _ j oj rj _ hj h2 (by rw [xq h5];exact hpj) (h.eqv h3.symm))
theorem jx.front {i:Nat} {ri:bA} {L2:List (Nat × bA)}:∀ (L1:List (Nat × bA)) {σ:St},jx P C N ops n0 σf σ (L1++(i,ri) :: L2)→(∀ x∈L1,ry x.2 ri = true)→jx P C N ops n0 σf σ ((i,ri) :: (L1++L2))
 | [],σ,h,_=>h
 | (j,rj) :: L1,σ,h,hi=>by
  cases h with
  | step _ _ oj _ _ hj hrj hpj h =>
   have:=jx.front L1 h fun x hx=>hi x (by simp [hx])
   exact jx.swap (.step σ j oj rj _ hj hrj hpj this) (hi (j,rj) (by simp))
end
end Go.Ax
namespace Go.Ax
open Go.RowKit
section
variable {P:Program} {N:Nat} {B:fh} {σ σ':St} {E:au} {a:Act} {w:World} {C:FuncId→Option CC}
inductive xP (ops:Array Oper):Nat→Nat→Prop
  | edge (i:Nat) (o:Oper) (e:Edge) (hi:ops[i]? = some o) (he:e∈o.after) (hb:Region.binds .any e = true):xP ops e.on i
  | trans (i j:Nat) (o:Oper) (e:Edge) (hi:ops[i]? = some o) (he:e∈o.after) (hb:Region.binds .any e = true) (h:xP ops j e.on):xP ops j i
theorem JW {ops:Array Oper} {acc:List Nat} (hacc:∀ i j,(acc.getD i 0).testBit j = true→xP ops j i) {i:Nat} {o:Oper} (hi:ops[i]? = some o) {j:Nat} (h:(Hf acc o).testBit j = true):xP ops j i:=by
 unfold Hf at h
 have key:∀ (l:List Edge) (s:Nat),(∀ e∈l,e∈o.after)→(∀ j,s.testBit j = true→xP ops j i) →
   (l.foldl (fun s e=>bif Region.binds .any e then s ||| (2 ^ e.on ||| acc.getD e.on 0) else s) s).testBit j = true→xP ops j i:=by
  intro l
  induction l with
  | nil=>intro s _ hs h;exact hs j h
  | cons e l ih =>
   intro s hl hs h
   rw [List.foldl_cons] at h
   refine ih _ (fun x hx=>hl x (by simp [hx])) ?_ h
   cases hb:Region.binds .any e with
   | false=>simpa [hb] using hs
   | true =>
    intro q hq
    simp only [cond_true,Nat.testBit_or,Bool.or_eq_true] at hq
    rcases hq with hq | hq | hq
    ·exact hs q hq
    ·rw [Nat.testBit_two_pow] at hq
     have:e.on = q:=by simpa using hq
     rw [← this]
     exact .edge i o e hi (hl e (by simp)) hb
    ·exact .trans i q o e hi (hl e (by simp)) hb (hacc _ _ hq)
 exact key _ 0 (fun e he=>by simpa using he) (fun j hj=>by simp at hj) h
theorem Dr {ops:Array Oper}:∀ (rest:List Oper) (acc:List Nat),ops.toList.drop acc.length = rest→(∀ i j,(acc.getD i 0).testBit j = true→xP ops j i)→∀ i j,((Ak rest acc).getD i 0).testBit j = true→xP ops j i
 | [],acc,_,h=>h
 | o :: r,acc,hd,h=>by
  rw [Ak]
  have hi:ops[acc.length]? = some o:=by
   have:=congrArg (·[0]?) hd
   simpa using this
  refine Dr r _ ?_ ?_
  ·rw [List.length_append, ← List.drop_drop,hd];rfl
  ·intro i j hij
   rw [List.getD_eq_getElem?_getD,List.getElem?_append] at hij
   split at hij
   ·exact h i j (by rw [List.getD_eq_getElem?_getD];exact hij)
   ·next hlt =>
    by_cases he:i = acc.length
    ·subst he
     exact JW h hi (by simpa using hij)
    ·have:i - acc.length≠0:=by omega
     rw [List.getElem?_singleton] at hij
     simp [this] at hij
theorem AL {m:Nat} {r:bA}:∀ (l:List bA) (j:Nat),Dt m r j l = true→∀ (k:Nat) (q:bA),l[k]? = some q→m.testBit (j+k) = true∨ry q r = true
 | [],j,_,k,q,h=>by simp at h
 | x :: l,j,hp,k,q,h=>by
  rw [Dt] at hp
  simp only [Bool.and_eq_true,Bool.or_eq_true] at hp
  match k with
  | 0=>simp at h;subst h;simpa using hp.1
  | k+1 =>
   have:=AL l (j+1) hp.2 k q (by simpa using h)
   rw [show j+(k+1) = j+1+k by omega]
   exact this
theorem A1 {ms:List Nat}:∀ (rest done:List bA),vn ms done rest = true→∀ (i j:Nat) (q r:bA),j < i→(done++rest)[i]? = some r→(done++rest)[j]? = some q→done.length≤i→(ms.getD i 0).testBit j = true∨ry q r = true
 | [],done,_,i,j,q,r,hji,hi,hj,hlt=>by
  rw [List.append_nil] at hi
  have:=(List.getElem?_eq_some_iff.1 hi).1
  omega
 | x :: l,done,h,i,j,q,r,hji,hi,hj,hlt=>by
  rw [vn] at h
  simp only [Bool.and_eq_true] at h
  rcases Nat.lt_or_ge done.length i with hlt' | hge
  ·refine A1 l (done++[x]) h.2 i j q r hji ?_ ?_ ?_
   ·rw [List.append_assoc];exact hi
   ·rw [List.append_assoc];exact hj
   ·simp;omega
  ·have he:i = done.length:=by omega
   subst he
   rw [List.getElem?_append_right (Nat.le_refl _)] at hi
   simp at hi
   subst hi
   rw [List.getElem?_append_left hji] at hj
   have:=AL done 0 h.1 j q hj
   simpa using this
theorem xO {ops:Array Oper}:∀ (rest:List Oper) (n:Nat),ops.toList.drop n = rest→o6 n rest = true→∀ (i:Nat) (o:Oper) (e:Edge),n≤i→ops[i]? = some o→e∈o.after→Region.binds .any e = true→e.on < i
 | [],n,hd,_,i,o,e,hn,hi,_,_=>by
  have h1:=List.drop_eq_nil_iff.1 hd
  have h2:=(Array.getElem?_eq_some_iff.1 hi).1
  simp at h1
  omega
 | x :: l,n,hd,h,i,o,e,hn,hi,he,hb=>by
  rw [o6] at h
  simp only [Bool.and_eq_true] at h
  rcases Nat.lt_or_ge n i with hlt | hge
  ·exact xO l (n+1) (by rw [← List.drop_drop,hd];rfl) h.2 i o e hlt hi he hb
  ·have:i = n:=by omega
   subst this
   have hx:ops[i]? = some x:=by
    have:=congrArg (·[0]?) hd
    simpa using this
   rw [hx] at hi
   cases hi
   have:=List.all_eq_true.1 h.1 e (by simpa using he)
   simpa [hb] using this
theorem az.congr {H H':ae} (h:az E w H) (he:∀ o,ae.get H' o = ae.get H o):az E w H' :=
 ⟨fun o ob ho=>h.at_ o ob (by rw [← he];exact ho),h.inj,h.sep,h.lt,h.oklt⟩
theorem bn.drawn (hs:bn N B σ E a w) (n:Nat):bn N B σ E a { w with drawn:=n }:=by
 have hS:dn E w [] E { w with drawn:=n }:=⟨rfl,rfl,rfl,Nat.le_refl _,fun _ h=>h,fun _ _ _=>rfl,fun _ h=>h,fun _ h=>.inl h,fun _ _ _=>⟨rfl,rfl,rfl⟩,fun o b h1 h2=>.inl ⟨o,h1,h2⟩⟩
 have hr:∀ v d,aj E w v d→aj E { w with drawn:=n } v d:=fun v d h=>by simpa [V.killAll] using h.step hS hs.heap.sep hs.heap.oklt
 have hd:∀ v d,aK E.ok w v d→aK E.ok { w with drawn:=n } v d:=fun v d h=>aK.mono (w:=w) (w':={ w with drawn:=n }) (fun _ h=>h) (fun _ _=>rfl) h
 refine ⟨hs.size,hs.small,hs.defers,hs.live,⟨fun o ob ho=>?_,hs.heap.inj,hs.heap.sep,hs.heap.lt,hs.heap.oklt⟩,fun t s hg=>⟨fun h=>hr _ _ ((hs.slots t s hg).1 h),(hs.slots t s hg).2⟩,⟨hs.base.os,hs.base.tape,hs.base.output,hs.base.size,hs.base.block⟩,hs.own,hs.okold⟩
 have:=hs.heap.at_ o ob ho
 exact ⟨this.1,pZ this.2 ⟨rfl,rfl,rfl⟩ (fun _ _=>rfl) hr hd⟩
theorem l8.holds (h:l8 σ σ') (ch:aN):holds σ'.tm ch = holds σ.tm ch:=iD ch fun x _=>by rw [h.tm]
theorem bn.eqv (hs:bn N B σ E a w) (h:l8 σ σ') (hn:σ.nx≤σ'.nx):bn N B σ' E a w:=by
 refine ⟨hs.size,hs.small,hs.defers,fun q hq=>hs.live q (by omega),hs.heap.congr fun o=>(h.hp o).symm,fun t s hg=>?_,hs.base,hs.own,hs.okold⟩
 rw [← h.tm] at hg
 have:=hs.slots t s hg
 refine fL (tm:=σ.tm) ⟨?_, ?_⟩ ?_
 ·exact this.1
 ·exact this.2
 ·intro x _ _;rw [h.tm]
theorem bn.weaken_nx (hs:bn N B σ E a w) {M:Nat} (h:σ.nx≤M):bn N B { σ with nx:=M } E a w :=
 ⟨hs.size,hs.small,hs.defers,fun q hq=>hs.live q (Nat.le_trans h hq),hs.heap,hs.slots,hs.base,hs.own,hs.okold⟩
theorem jx.dom {ops:Array Oper} {n0:Nat} {σf:St} {L:List (Nat × bA)} (h:jx P C N ops n0 σf σ L):∀ x∈L,x.1 < ops.size:=by
 induction h with
 | done=>intro x hx;simp at hx
 | step σ i o r L hi hr hp h ih =>
  intro x hx
  rcases List.mem_cons.1 hx with rfl | hx
  ·exact (Array.getElem?_eq_some_iff.1 hi).1
  ·exact ih x hx
theorem Qf (hC:∀ f con,C f = some con→bz P f con) {ops:Array Oper} {Q:Exit→Act→World→Prop} {σf:St} {M n0:Nat} (hM:n0+8*ops.size≤M)
  (hedge:∀ (i:Nat) (o:Oper) (e:Edge),ops[i]? = some o→e∈o.after→Region.binds .any e = true→e.on < i)
  (hQ:∀ σ' E' a' w',l8 σ' σf→σ'.nx = M→bn N B σ' E' a' w'→Q .normal a' w'):∀ (fuel:Nat) (L:List (Nat × bA)) (listed:Array Bool) (σ:St) (E:au) (a:Act) (w:World),
  L.length = fuel→listed.size = ops.size→(∀ i,i < ops.size→(listed.getD i false = false↔i∈L.map (·.1)))→L.Pairwise (fun x y=>x.1 < y.1) →
  L.Pairwise (fun x y=>xP ops x.1 y.1∨ry x.2 y.2 = true)→(∀ i j,xP ops j i→listed.getD i false = true→listed.getD j false = true) →
  jx P C N ops n0 σf σ L→σ.nx = M→bn N B σ E a w→(∀ x∈L,e9 E (n0+8*x.1))→wpAny P .any ops Q fuel listed a w:=by
 intro fuel
 induction fuel with
 | zero =>
  intro L listed σ E a w hl hsz hmem _ _ _ hr hnx hs _
  have hL:L = []:=List.length_eq_zero_iff.1 hl
  subst hL
  refine ⟨List.eq_nil_iff_forall_not_mem.2 fun i hi=>?_, ?_⟩
  ·obtain ⟨h0,o,ho,_⟩:=mem_ready.1 hi
   have hlt:=(Array.getElem?_eq_some_iff.1 ho).1
   have:listed.getD i false = false:=by
    rw [Array.getD_eq_getD_getElem?] at h0 ⊢
    have:i < listed.size:=by omega
    simpa [this] using h0
   simpa using (hmem i hlt).1 this
  ·cases hr with
   | done _ h=>exact hQ σ E a w h hnx hs
 | succ fuel ih =>
  intro L listed σ E a w hl hsz hmem hlt hpair hclosed hr hnx hs hlive
  have un:∀ i,i < ops.size→(listed.getD i true = false↔listed.getD i false = false):=by
   intro i hi
   rw [Array.getD_eq_getD_getElem?,Array.getD_eq_getD_getElem?]
   have:i < listed.size:=by omega
   simp [this]
  refine ⟨fun hnil=>?_,fun i hi=>?_⟩
  ·exfalso
   match L,hl with
   | x :: L',_ =>
    have hx:x.1 < ops.size:=hr.dom x (by simp)
    have hin:x.1∈Region.ready .any ops listed:=by
     refine mem_ready.2 ⟨(un _ hx).2 ((hmem _ hx).2 (by simp)),ops[x.1],Array.getElem?_eq_getElem hx,fun e he hb=>?_⟩
     have hon:=hedge x.1 _ e (Array.getElem?_eq_getElem hx) he hb
     cases hc:listed.getD e.on false with
     | true=>rfl
     | false =>
      have:=(hmem e.on (by omega)).1 hc
      obtain ⟨y,hy,hye⟩:=List.mem_map.1 this
      rcases List.mem_cons.1 hy with rfl | hy
      ·omega
      ·have:=(List.pairwise_cons.1 hlt).1 y hy
       omega
    rw [hnil] at hin
    simp at hin
  ·obtain ⟨h0,o,ho,hall⟩:=mem_ready.1 hi
   have hisz:=(Array.getElem?_eq_some_iff.1 ho).1
   have hiL:=(hmem i hisz).1 ((un i hisz).1 h0)
   obtain ⟨y,hy,hyi⟩:=List.mem_map.1 hiL
   obtain ⟨i',ri⟩:=y
   simp only at hyi
   subst hyi
   obtain ⟨L1,L2,rfl⟩:=List.append_of_mem hy
   have hanc:∀ j,xP ops j i'→listed.getD j false = true:=by
    intro j hj
    cases hj with
    | edge _ o' e hi' he hb=>rw [ho] at hi'; cases hi'; exact hall e he hb
    | trans _ _ o' e hi' he hb h=>rw [ho] at hi'; cases hi'; exact hclosed _ _ h (hall e he hb)
   have hind:∀ x∈L1,ry x.2 ri = true:=by
    intro x hx
    rcases (List.pairwise_append.1 hpair).2.2 x hx (i',ri) (by simp) with h | h
    ·exfalso
     have h1:=hanc _ h
     have h2:=(hmem x.1 (hr.dom x (by simp [hx]))).2 (List.mem_map.2 ⟨x,by simp [hx],rfl⟩)
     rw [h1] at h2
     cases h2
    ·exact h
   have hfr:=jx.front L1 hr hind
   cases hfr with
   | step _ _ o' _ _ hi' hrec hpp hrest =>
    refine Es (M:=M) hC hs hi' (hlive (i',ri) (by simp)) (by omega) (by omega) hrec hpp fun E' a' w' hs' hl'=>?_
    have heq:{ after σ ri with nx:=M } = after σ ri:=by
     rw [← hnx];rfl
    rw [heq] at hs'
    have hno:∀ x∈L1++L2,x.1≠i':=by
     intro x hx
     rcases List.mem_append.1 hx with hx | hx
     ·have:=(List.pairwise_append.1 hlt).2.2 x hx (i',ri) (by simp)
      simp only at this;omega
     ·have:=(List.pairwise_cons.1 (List.pairwise_append.1 hlt).2.1).1 x hx
      simp only at this;omega
    have hsub:(L1++L2).Sublist (L1++(i',ri) :: L2):=List.Sublist.append (List.Sublist.refl _) (List.sublist_cons_self _ _)
    refine ih (L1++L2) _ (after σ ri) E' a' w' ?_ ?_ ?_ (hlt.sublist hsub) (hpair.sublist hsub) ?_ hrest hnx hs' ?_
    ·simp only [List.length_append,List.length_cons] at hl ⊢; omega
    ·simp [hsz]
    ·intro k hk
     by_cases hki:k = i'
     ·subst hki
      constructor
      ·intro h
       have:k < listed.size:=by omega
       simp [this] at h
      ·intro h
       obtain ⟨x,hx,hxe⟩:=List.mem_map.1 h
       exact (hno x hx hxe).elim
     ·rw [getD_set_ne false (Ne.symm hki),hmem k hk]
      simp only [List.map_append,List.map_cons,List.mem_append,List.mem_cons]
      constructor
      ·rintro (h | h | h)
       ·exact .inl h
       ·exact (hki h).elim
       ·exact .inr h
      ·rintro (h | h)
       ·exact .inl h
       ·exact .inr (.inr h)
    ·intro p q hpq hp
     by_cases hpi:p = i'
     ·subst hpi
      exact getD_set_true (hanc q hpq)
     ·rw [getD_set_ne false (Ne.symm hpi)] at hp
      exact getD_set_true (hclosed p q hpq hp)
    ·intro x hx j hj hlx
     rcases hl' _ hlx with h | h
     ·exact hlive x (hsub.subset hx) j hj h
     ·have:=hno x hx
      omega
inductive KK (P:Program) (C:FuncId→Option CC) (N:Nat) (all:List Oper):List Oper→Nat→St→List bA→St→Prop
  | nil (nid:Nat) (σ:St):KK P C N all [] nid σ [] { σ with tm:=od σ.tm }
  | cons (o:Oper) (r:List Oper) (nid:Nat) (σ σ':St) (rc:bA) (rcs:List bA) (h:eX P C N all σ nid o rc) (hp:∀ p∈mO σ.tm rc.ch rc.res.pre,p) (hr:KK P C N all r (nid+8) (after σ rc) rcs σ'):KK P C N all (o :: r) nid σ (rc :: rcs) σ'
theorem JD {ops:Array Oper} {n0:Nat}:∀ (rest:List Oper) (i:Nat) (σ:St) (rcs:List bA) (σ2:St),ops.toList.drop i = rest→KK P C N ops.toList rest (n0+8*i) σ rcs σ2 →
  ∃ σf,jx P C N ops n0 σf σ ((List.range' i rcs.length).zip rcs)∧σ2 = { σf with tm:=od σf.tm }∧σf.nx = σ.nx∧rcs.length = rest.length
 | [],i,σ,rcs,σ2,hd,h=>by
  cases h
  exact ⟨σ, .done _ (.refl _),rfl,rfl,rfl⟩
 | o :: r,i,σ,rcs,σ2,hd,h=>by
  cases h with
  | cons _ _ _ _ _ rc rcs' h1 hp h2 =>
   have hi:ops[i]? = some o:=by
    have:=congrArg (·[0]?) hd
    simpa using this
   obtain ⟨σf,hr,he,hn,hl⟩:=JD r (i+1) (after σ rc) rcs' σ2 (by rw [← List.drop_drop,hd];rfl) h2
   refine ⟨σf, ?_,he,hn,by simp [hl]⟩
   rw [List.length_cons,List.range'_succ,List.zip_cons_cons]
   exact .step σ i o rc _ hi h1 hp hr
theorem Ep (hm:P.follows .mixedOrders = true) (hC:∀ f con,C f = some con→bz P f con) {id:Nat} {ops:Array Oper} {Q:Exit→Act→World→Prop} {rcs:List bA}
    (hg:KK P C N ops.toList ops.toList σ.nx { σ with nx:=σ.nx+8*ops.toList.length } rcs σ') (he:o6 0 ops.toList = true) (hd:vn (Ak ops.toList []) [] rcs = true)
    (hs:bn N B σ E a w) (hQ:∀ E' a' w',bn N B σ' E' a' w'→Q .normal a' w'):(Code.region id ops true).wp P Q a w:=by
  obtain ⟨σf,hr,e,hn,hl⟩:=JD (n0:=σ.nx) ops.toList 0 _ rcs σ' rfl (by simpa using hg)
  refine wp_region_any hm ?_
  have hsz:rcs.length = ops.size:=by simpa using hl
  have hs1:bn N B { σ with nx:=σ.nx+8*ops.toList.length } E a { w with drawn:=w.drawn+1 }:=by
    have:=hs.weaken_nx (M:=σ.nx+8*ops.toList.length) (Nat.le_add_right _ _)
    exact this.drawn _
  have hget:∀ (k:Nat) (x:Nat × bA),((List.range' 0 rcs.length).zip rcs)[k]? = some x→x.1 = k∧rcs[k]? = some x.2:=by
    intro k x hx
    rw [List.getElem?_zip_eq_some] at hx
    obtain ⟨h1,h2⟩:=hx
    rw [List.getElem?_range' (by exact (List.getElem?_eq_some_iff.1 h2).1)] at h1
    first
      | (have h3:0+1*k = x.1:=Option.some.inj h1
         exact ⟨by omega,h2⟩)
  refine Qf (M:=σ.nx+8*ops.toList.length) (n0:=σ.nx) (σf:=σf) hC (by simp) (fun i o e hi hem hb=>xO ops.toList 0 rfl he i o e (Nat.zero_le _) hi hem hb) ?_ ops.size ((List.range' 0 rcs.length).zip rcs) _ _ E a _ ?_ ?_ ?_ ?_ ?_ ?_ hr rfl hs1 ?_
  · intro σ2 E' a' w' hev hnx hs2
    refine hQ E' a' w' ?_
    have h3:bn N B σf E' a' w':=hs2.eqv hev (by rw [hnx,hn];exact Nat.le_refl _)
    rw [e]
    exact Bp h3
  · simp [hsz]
  · simp
  · intro i hi
    constructor
    · intro _
      have h1:i < rcs.length:=by omega
      refine List.mem_map.2 ⟨(i,rcs[i]), ?_,rfl⟩
      refine List.mem_of_getElem? (i:=i) ?_
      rw [List.getElem?_zip_eq_some]
      simp [h1]
    · intro _
      simp [hi]
  · rw [List.pairwise_iff_getElem]
    intro i j hi hj hij
    have h1:=hget i _ (List.getElem?_eq_getElem hi)
    have h2:=hget j _ (List.getElem?_eq_getElem hj)
    rw [h1.1,h2.1];exact hij
  · rw [List.pairwise_iff_getElem]
    intro i j hi hj hij
    have h1:=hget i _ (List.getElem?_eq_getElem hi)
    have h2:=hget j _ (List.getElem?_eq_getElem hj)
    rw [h1.1,h2.1]
    rcases A1 rcs [] hd j i _ _ hij h2.2 h1.2 (Nat.zero_le _) with h | h
    · exact .inl (Dr ops.toList [] rfl (fun i j h=>by simp at h) _ _ h)
    · exact .inr h
  · intro i j hanc h
    exfalso
    rw [Array.getD_eq_getD_getElem?,Array.getElem?_replicate] at h
    split at h <;> simp at h
  · intro x hx
    exact .of hs.live (Nat.le_add_right _ _)
end
end Go.Ax
namespace Go.Ax
open Go.RowKit
structure dj (σ σ':St):Prop where
  sim:∀ (N:Nat) (B:fh) (E:au) (a:Act) (w:World),bn N B σ E a w→∃ E',bn N B σ' E' a w
def LY (K1:St→Prop) (K:Exit→St→Prop):Exit→St→Prop
 | .normal,σ=>K1 σ
 | e,σ=>K e σ
def MQ (id:Nat) (K:Exit→St→Prop):Exit→St→Prop
 | .exit id',σ=>bif Nat.beq id' id then K .normal σ else K (.exit id') σ
 | e,σ=>K e σ
section
variable {P:Program} {N:Nat} {B:fh} {C:FuncId→Option CC}
def KS (N:Nat) (B:fh) (K:Exit→St→Prop) (e:Exit) (a:Act) (w:World):Prop:=∃ σ E,K e σ∧bn N B σ E a w
theorem PT (body:(Exit→St→Prop)→St→Prop) (c:Code)
  (hbody:∀ (K:Exit→St→Prop) (σ:St) (E:au) (a:Act) (w:World),body K σ→bn N B σ E a w→c.wp P (KS N B K) a w)
  (I:Nat→St→Prop) (K:Exit→St→Prop) (hI:∀ m σ,I m σ→body (LY (fun σ'=>∃ m' σ'',m' < m∧dj σ' σ''∧I m' σ'') K) σ) :
  ∀ (m:Nat) (σ:St) (E:au) (a:Act) (w:World),I m σ→bn N B σ E a w→(Code.loop c).wp P (KS N B K) a w:=by
 intro m σ E a w hm hs b k cs
 have key:∀ m σ E a w,I m σ→bn N B σ E a w→∃ e a' w',KS N B K e a' w'∧Arrives P (lone (b.at a (.code c :: .inLoop c :: k)) cs w) b k cs e a' w':=by
  intro m
  induction m using Nat.strongRecOn with
  | _ m ih =>
   intro σ E a w hm hs
   obtain ⟨e,a₁,w₁,⟨σ₁,E₁,hk,hs₁⟩,harr⟩:=hbody _ σ E a w (hI m σ hm) hs b (.inLoop c :: k) cs
   cases e with
   | normal =>
    obtain ⟨m',σ2,hlt,hent,hI'⟩:=hk
    obtain ⟨E2,hs2⟩:=hent.sim N B E₁ a₁ w₁ hs₁
    obtain ⟨e₂,a₂,w₂,hq₂,harr₂⟩:=ih m' hlt σ2 E2 a₁ w₁ hI' hs2
    exact ⟨e₂,a₂,w₂,hq₂, .of_steps (Steps.trans harr (.one step_inLoop)) harr₂⟩
   | exit id=>exact ⟨_,a₁,w₁,⟨σ₁,E₁,hk,hs₁⟩, .pass (x:=.inLoop c) rfl (fun _ _=>.inl (by simp)) harr⟩
   | goto l=>exact ⟨_,a₁,w₁,⟨σ₁,E₁,hk,hs₁⟩, .pass (x:=.inLoop c) rfl (fun _ _=>.inl (by simp)) harr⟩
   | ret=>exact ⟨_,a₁,w₁,⟨σ₁,E₁,hk,hs₁⟩, .pass (x:=.inLoop c) rfl (fun _ _=>.inl (by simp)) harr⟩
   | panic ch=>exact ⟨_,a₁,w₁,⟨σ₁,E₁,hk,hs₁⟩, .pass (x:=.inLoop c) rfl (fun _ _=>.inl (by simp)) harr⟩
   | outgrown=>exact ⟨_,a₁,w₁,⟨σ₁,E₁,hk,hs₁⟩, .pass (x:=.inLoop c) rfl (fun _ _=>.inl (by simp)) harr⟩
 obtain ⟨e,a',w',hq,harr⟩:=key m σ E a w hm hs
 exact ⟨e,a',w',hq, .of_steps (.one step_loop) harr⟩
end
section
variable {σ σ' σ'':St}
theorem dj.refl (σ:St):dj σ σ:=⟨fun _ _ E _ _ h=>⟨E,h⟩⟩
theorem dj.trans (h:dj σ σ') (h':dj σ' σ''):dj σ σ'':=⟨fun N B E a w hs=>by
 obtain ⟨E',hs'⟩:=h.sim N B E a w hs
 exact h'.sim N B E' a w hs'⟩
end
def qB (f:Func):Code:=match f.body with | some c=>c | none=>.skip
abbrev ac (n:Int):Int:=IntKind.i64.wrap n
abbrev sv (t:Nat) (v:V):Nat × aF:=(t,⟨[],v⟩)
end Go.Ax
namespace Go.Ax
open Go.RowKit
mutual
def VLe:V→V→Prop
 | .c d, .c d'=>y8 d d'
 | .agg xs, .agg ys=>VLes xs ys
 | .tup xs, .tup ys=>VLes xs ys
 | .dptr k cs j, .dptr k' cs' j'=>k = k'∧j = j'∧d6 cs cs'
 | .fn f xs, .fn g ys=>f = g∧VLes xs ys
 | _, .c .unk=>True
 | x,y=>x = y
def VLes:List V→List V→Prop
 | [],[]=>True
 | x :: xs,y :: ys=>VLe x y∧VLes xs ys
 | _,_=>False
end
section
variable {P:Program} {N:Nat} {B:fh} {σ:St} {E:au} {a:Act} {w:World} {C:FuncId→Option CC}
theorem ti:∀ {xs ys:List V},VLes xs ys→xs.length = ys.length∧∀ (i:Nat) (x y:V),xs[i]? = some x→ys[i]? = some y→VLe x y
 | [],[],_=>⟨rfl,fun i x y h=>by simp at h⟩
 | x :: xs,y :: ys,h=>by
  rw [VLes] at h
  obtain ⟨h1,h2⟩:=ti h.2
  refine ⟨by simp [h1],fun i p q hp hq=>?_⟩
  match i with
  | 0=>simp at hp hq;subst hp;subst hq;exact h.1
  | i+1=>exact h2 i p q (by simpa using hp) (by simpa using hq)
 | [],_ :: _,h=>by simp [VLes] at h
 | _ :: _,[],h=>by simp [VLes] at h
theorem aj.le {v:Value} {d d':V} (h:aj E w v d):VLe d d'→aj E w v d':=by
 induction h generalizing d' with
 | c v d h =>
  intro hd
  cases d' with
  | c d'=>exact .c _ _ (h.le (by simpa [VLe] using hd))
  | _=>simp [VLe] at hd
 | agg vs ds hl h ih =>
  intro hd
  cases d' with
  | agg ys =>
   rw [VLe] at hd
   obtain ⟨h1,h2⟩:=ti hd
   refine .agg _ _ (hl.trans h1) fun i v d hv hd'=>?_
   have hlt:i < ds.length:=by rw [h1];exact (List.getElem?_eq_some_iff.1 hd').1
   exact ih i v _ hv (List.getElem?_eq_getElem hlt) (h2 i _ _ (List.getElem?_eq_getElem hlt) hd')
  | c d=>cases d <;> simp [VLe] at hd;exact .unk _
  | _=>simp [VLe] at hd
 | tup vs ds hl h ih =>
  intro hd
  cases d' with
  | tup ys =>
   rw [VLe] at hd
   obtain ⟨h1,h2⟩:=ti hd
   refine .tup _ _ (hl.trans h1) fun i v d hv hd'=>?_
   have hlt:i < ds.length:=by rw [h1];exact (List.getElem?_eq_some_iff.1 hd').1
   exact ih i v _ hv (List.getElem?_eq_getElem hlt) (h2 i _ _ (List.getElem?_eq_getElem hlt) hd')
  | c d=>cases d <;> simp [VLe] at hd;exact .unk _
  | _=>simp [VLe] at hd
 | ptr o k i j b h1 h2 h3 =>
  intro hd
  cases d' with
  | c d=>cases d <;> simp [VLe] at hd;exact .unk _
  | ptr=>simp only [VLe] at hd;rw [← hd];exact .ptr o k i j b h1 h2 h3
  | _=>simp [VLe] at hd
 | row o k a n c hn hl hc hm h0 =>
  intro hd
  cases d' with
  | c d=>cases d <;> simp [VLe] at hd;exact .unk _
  | row=>simp only [VLe] at hd;rw [← hd];exact .row o k a n c hn hl hc hm h0
  | _=>simp [VLe] at hd
 | sub o k off n a c hn hc hm hl ha =>
  intro hd
  cases d' with
  | c d=>cases d <;> simp [VLe] at hd;exact .unk _
  | sub=>simp only [VLe] at hd;rw [← hd];exact .sub o k off n a c hn hc hm hl ha
  | _=>simp [VLe] at hd
 | dptr k cs j ad u h1 h2 h3 h4 =>
  intro hd
  cases d' with
  | c d=>cases d <;> simp [VLe] at hd;exact .unk _
  | dptr k' cs' j' =>
   simp only [VLe] at hd
   obtain ⟨rfl,rfl,hd⟩:=hd
   exact .dptr k cs' j ad u h1 h2 (hd.1.symm.trans h3) fun i d' hd'=>by
    have hi:i < cs.length:=by rw [hd.1];exact (List.getElem?_eq_some_iff.1 hd').1
    exact (h4 i _ (List.getElem?_eq_getElem hi)).le (hd.2 i _ d' (List.getElem?_eq_getElem hi) hd')
  | _=>simp [VLe] at hd
 | fn f vs ds hl h ih =>
  intro hd
  cases d' with
  | c d=>cases d <;> simp [VLe] at hd;exact .unk _
  | fn g ds' =>
   rw [VLe] at hd
   obtain ⟨rfl,hd⟩:=hd
   obtain ⟨h1,h2⟩:=ti hd
   refine .fn f vs ds' (hl.trans h1) fun i v d hv hd'=>?_
   have hlt:i < ds.length:=by rw [h1];exact (List.getElem?_eq_some_iff.1 hd').1
   exact ih i v _ hv (List.getElem?_eq_getElem hlt) (h2 i _ _ (List.getElem?_eq_getElem hlt) hd')
  | _=>simp [VLe] at hd
theorem aL.le {vs:List Value} {ds ds':List V} (h:aL E w vs ds) (hd:VLes ds ds'):aL E w vs ds':=by
 obtain ⟨h1,h2⟩:=ti hd
 refine ⟨h.1.trans h1,fun i v d hv hd'=>?_⟩
 have hlt:i < ds.length:=by rw [h1];exact (List.getElem?_eq_some_iff.1 hd').1
 exact (h.2 i v _ hv (List.getElem?_eq_getElem hlt)).le (h2 i _ _ (List.getElem?_eq_getElem hlt) hd')
end
def kB:List V→Nat→List (Nat × aF)
 | [],_=>[]
 | v :: r,i=>(i,⟨[],v⟩) :: kB r (i+1)
def HF (P:Program) (σ:St):ResultVar→Option V
 | .tmp t=>bM σ [] (.tmp t)
 | .cell s T=>match bM σ [] (.tmp s) with | some x=>(match nQ P σ.hp T x with | some r=>some r.val | none=>none) | none=>none
def yq (P:Program) (σ:St):ResultVar→Prop
 | .tmp _=>True
 | .cell s T=>∀ x r,bM σ [] (.tmp s) = some x→nQ P σ.hp T x = some r→∀ p∈r.pre,p
def mB (P:Program) (σ:St) (rs:List ResultVar):Option V :=
 match rs.mapM (HF P σ) with
 | some [v]=>some v
 | some vs=>some (.tup vs)
 | none=>none
def QU (P:Program) (rs:List ResultVar) (Q:ae→V→Prop):Exit→St→Prop
 | .ret,σ=>(match mB P σ rs with | some v=>(∀ x∈rs,yq P σ x)∧Q σ.hp v | none=>False)
 | .normal,σ=>(match mB P σ rs with | some v=>(∀ x∈rs,yq P σ x)∧Q σ.hp v | none=>False)
 | _,_=>False
def D.scal:D→Bool
 | .sl ..=>false
 | _=>true
def Ty.sc1:Ty→Bool
 | .i _=>true
 | .b=>true
 | .s=>true
 | _=>false
def Ty.sc:Ty→Bool
 | .st k=>(lf k).all Ty.sc1
 | .arr _ t=>t.sc
 | t=>t.sc1
theorem Gk {t:Ty} (h:t.sc1 = true) (x:t.T):(ka t x).scal = true:=by
 cases t with
 | i k=>rfl
 | b=>rfl
 | s=>rfl
 | _=>cases h
theorem FV:∀ (ts:List Ty) (x:HP ts),ts.all Ty.sc1 = true→∀ d∈fK ts x,d.scal = true
 | [],_,_,d,hd=>by simp [fK] at hd
 | [t],x,h,d,hd=>by
  simp [fK] at hd;subst hd
  exact Gk (by simpa using h) _
 | t :: u :: r,x,h,d,hd=>by
  rw [fK,List.mem_cons] at hd
  rw [List.all_cons,Bool.and_eq_true] at h
  rcases hd with rfl | hd
  ·exact Gk h.1 _
  ·exact FV (u :: r) _ h.2 d hd
theorem JO:∀ (t:Ty) (x:t.T),t.sc = true→∀ d∈t.enc x,d.scal = true
 | .i _,_,_,d,hd=>by simp [Ty.enc] at hd;subst hd;rfl
 | .b,_,_,d,hd=>by simp [Ty.enc] at hd;subst hd;rfl
 | .s,_,_,d,hd=>by simp [Ty.enc] at hd;subst hd;rfl
 | .ls _,_,h,_,_=>by simp [Ty.sc,Ty.sc1] at h
 | .st k,x,h,d,hd=>FV _ _ h d hd
 | .arr n t,l,h,d,hd=>by
  have hd':d∈(List.range n).flatMap fun i=>t.enc (l.getD i t.z):=hd
  obtain ⟨i,_,hi⟩:=List.mem_flatMap.1 hd'
  exact JO t _ h d hi
theorem B4 {t:Ty} {l:List t.T} {i:Nat} (h:t.sc = true):∀ d∈Go.Ax.els t l i,d.scal = true:=JO t _ h
def MB (H:ae) (o k:Nat):Bool:=match ae.get H o with | some (.row _ t _)=>Nat.beq t.k k&&t.sc | _=>false
mutual
def newV (H:ae):V→Bool
 | .c d=>d.scal
 | .agg vs=>newVs H vs
 | .tup vs=>newVs H vs
 | .row o k=>MB H o k
 | .sub o k _ _=>MB H o k
 | _=>false
def newVs (H:ae):List V→Bool
 | []=>true
 | v :: r=>newV H v&&newVs H r
end
def rK:jY→ae→V→Prop
 | .data d,H,v=>VLe (v.view H) d
 | .new d,H,v=>VLe (v.view H) d∧newV H v = true
 | .own fr e t l,H,v=>(v = .c .nil∧l = [])∨∃ o,v = .row o t.k∧ae.get H o = some (.row e t l)∧(fr = true→t.sc = true)
section
variable {P:Program} {N:Nat} {B:fh} {σ:St} {E:au} {a:Act} {w:World} {C:FuncId→Option CC}
theorem ou:∀ (vs:List V) (i t:Nat) (s:aF),aw (kB vs i) t = some s→∃ v,i≤t∧vs[t - i]? = some v∧s = ⟨[],v⟩
 | [],i,t,s,h=>by simp [kB,aw] at h
 | v :: r,i,t,s,h=>by
  rw [kB,br] at h
  split at h
  ·next e=>subst e;cases h;exact ⟨v,Nat.le_refl _,by simp,rfl⟩
  ·next e =>
   obtain ⟨u,h1,h2,h3⟩:=ou r (i+1) t s h
   refine ⟨u,by omega, ?_,h3⟩
   rw [show t - i = (t - (i+1))+1 by omega]
   simpa using h2
theorem Oq {ok:Nat→Prop} {xs:List Value} {vs:List V} (hx:aL (dR ok) w xs vs) (hok:∀ b,ok b→b < w.heap.size) (hN:vs.length≤N) (hsm:N≤1000000) :
  bn N ⟨w,ok,fun _=>False,fun _=>undef⟩ { tm:=kB vs 0,hp:=[],nx:=0 } (dR ok) { tmps:=xs.toArray++Array.replicate (N - xs.toArray.size) undef,defers:=[] } w:=by
 have hl:=hx.1
 refine ⟨?_,hsm,rfl,fun q _ h=>h,⟨fun o ob h=>?_,fun o o' b h=>h.elim,fun o b h=>h.elim,fun o b h=>h.elim,hok⟩,fun t s hg=>?_, .refl _ _ _,fun o b h=>h.elim,fun b h=>.inl h⟩
 ·simp;omega
 ·simp [ae.get] at h
 ·obtain ⟨v,_,h2,rfl⟩:=ou vs 0 t s hg
  rw [Nat.sub_zero] at h2
  have hlt:t < xs.length:=by rw [hl];exact (List.getElem?_eq_some_iff.1 h2).1
  have hget:(xs.toArray++Array.replicate (N - xs.toArray.size) undef).getD t undef = xs[t]:=by
   rw [Array.getD_eq_getD_getElem?,Array.getElem?_append_left (by simpa using hlt)]
   simp [hlt]
  refine ⟨fun _=>?_,fun _ h=>by simp [holds] at h⟩
  rw [tJ (by omega)]
  simp only
  rw [hget]
  exact hx.2 t _ v (List.getElem?_eq_getElem hlt) h2
theorem N0 {H:ae} (hH:az E w H) {t:TypeId} {x:Value} {vx:V} {r:aH} (hx:aj E w x vx) (h:nQ P H t vx = some r) (hp:∀ p∈r.pre,p) :
  ∃ ad v,x = .pointer (some ad)∧(loadVar t ad).run P w = .ok v w∧aj E w v r.val:=by
 obtain ⟨ad,had⟩:∃ ad,x = .pointer (some ad):=by
  unfold nQ at h
  split at h
  ·cases hx with | ptr o k i j b h1 h2 h3=>exact ⟨_,rfl⟩
  ·cases hx with | dptr k cs j ad u h1 h2 h3 h4=>exact ⟨_,rfl⟩
  ·cases h
 obtain ⟨_,_,v,hrun,hrep⟩:=CX (ρ:=fun _=>x) (o:={ (default:Oper) with op:=.load t (.const x) }) hH rfl hx h hp
 refine ⟨ad,v,had, ?_,hrep⟩
 subst had
 simp only [execOp,Instr.loadAt,Instr.sureAddr] at hrun
 simp at hrun
 cases hl:(loadVar t ad).run P w with
 | ok u w'=>rw [hl] at hrun;simp at hrun;rw [hrun.1,hrun.2]
 | halt y w'=>rw [hl] at hrun;simp at hrun
theorem HA {g:ResultVar→Sem Value}:∀ (rs:List ResultVar) (hg:∀ r∈rs, ∀ d,HF P σ r = some d→∃ u,(g r).run P w = .ok u w∧aj E w u d) (ds:List V),rs.mapM (HF P σ) = some ds→∃ us,(rs.mapM g).run P w = .ok us w∧aL E w us ds:=by
 intro rs
 induction rs with
 | nil=>intro _ ds h;simp at h;subst h;exact ⟨[],by simp, .nil⟩
 | cons r rs ih =>
  intro hg ds h
  have ih:=ih fun r' hr'=>hg r' (by simp [hr'])
  rw [List.mapM_cons] at h
  simp only [Option.bind_eq_bind,Option.pure_def,Option.bind_eq_some_iff,Option.some.injEq] at h
  obtain ⟨d,hd,ds',hds,rfl⟩:=h
  obtain ⟨u,h1,h2⟩:=hg r (by simp) d hd
  obtain ⟨us,h3,h4⟩:=ih ds' hds
  refine ⟨u :: us, ?_,by simp [h4.1],fun i v d' hv hd'=>?_⟩
  ·rw [List.mapM_cons]
   simp only [Sem.run_bind,Sem.run_pure]
   rw [h1]
   simp only [Result.andThen_ok]
   rw [h3]
   simp
  ·match i with
   | 0=>simp at hv hd'; subst hv;subst hd'; exact h2
   | i+1=>exact h4.2 i v d' (by simpa using hv) (by simpa using hd')
theorem J7 {fn:Func} {g:ResultVar→Sem Value} (hg:∀ r∈fn.results.toList, ∀ d,HF P σ r = some d→∃ u,(g r).run P w = .ok u w∧aj E w u d) {v:V} (h:mB P σ fn.results.toList = some v) :
  ∃ u,(fn.results.mapM g >>= fun vs=>pure (if h:vs.size = 1 then vs[0] else Value.tuple vs):Sem Value).run P w = .ok u w∧aj E w u v:=by
 unfold mB at h
 rw [Array.mapM_eq_mapM_toList]
 split at h
 ·next d hd =>
  cases h
  obtain ⟨us,h1,h2⟩:=HA _ hg _ hd
  obtain ⟨u,rfl⟩:∃ u,us = [u]:=by
   have:=h2.1
   match us,this with
   | [u],_=>exact ⟨u,rfl⟩
  refine ⟨u, ?_,h2.2 0 u _ rfl rfl⟩
  simp only [Sem.run_bind,Sem.run_map]
  rw [h1]
  simp
 ·next ds hne hd =>
  cases h
  obtain ⟨us,h1,h2⟩:=HA _ hg _ hd
  refine ⟨.tuple us.toArray, ?_, .tup _ _ h2.1 h2.2⟩
  have hne1:us.length≠1:=by
   rw [h2.1]
   intro h
   match ds,h with
   | [d],_=>exact hne d rfl
  simp only [Sem.run_bind,Sem.run_map]
  rw [h1]
  simp [hne1]
 ·cases h
theorem AW {fn:Func} (hs:bn N B σ E a w) {v:V} (h:mB P σ fn.results.toList = some v) (hp:∀ x∈fn.results.toList,yq P σ x):∃ u,(results fn a.tmps).run P w = .ok u w∧aj E w u v:=by
 refine J7 (fn:=fn) (fun r hr0 d h=>?_) h
 have hp:=hp r hr0
 cases r with
 | tmp t =>
  exact ⟨_,rfl,co hs (ch:=[]) (x:=.tmp t) rfl h⟩
 | cell s T =>
  simp only [HF] at h
  split at h
  ·next x hx =>
   split at h
   ·next r hr =>
    cases h
    have hrx:aj E w (a.tmps.getD s undef) x:=co hs (ch:=[]) rfl hx
    obtain ⟨ad,v,e,h1,h2⟩:=N0 hs.heap hrx hr (hp x r hx hr)
    refine ⟨v, ?_,h2⟩
    simp [e,asAddr,h1]
   ·cases h
  ·cases h
theorem uj {ok ok':Nat→Prop} {v:Value} {d:D} (h:aK ok w v d) (hs:d.scal = true):aK ok' w v d:=by
 cases d with
 | unk=>exact .unk _
 | nil=>cases h;exact .nil
 | lit u=>cases h;exact .lit _
 | opt b us=>cases h;exact .opt _ _
 | any=>cases h with | any _ h1=>exact .any _ h1
 | sl=>simp [D.scal] at hs
theorem zc:∀ {H:ae} {vs:List V},newVs H vs = true→∀ (i:Nat) (v:V),vs[i]? = some v→newV H v = true
 | _,[],_,i,v,h=>by simp at h
 | H,x :: xs,hn,i,v,h=>by
  rw [newVs,Bool.and_eq_true] at hn
  match i with
  | 0=>simp at h;subst h;exact hn.1
  | i+1=>exact zc hn.2 i v (by simpa using h)
theorem O4 {H:ae} {ok':Nat→Prop} (hH:az E w H) (hown:∀ q b,E.live q→E.conc q = some b→ok' b) {v:Value} {d:V} (h:aj E w v d):newV H d = true→aj (dR ok') w v (d.view H):=by
  induction h with
  | c v d h =>
    intro hn
    exact .c _ _ (uj h (by simpa [newV] using hn))
  | agg vs ds hl h ih =>
    intro hn
    rw [newV] at hn
    rw [V.view]
    refine .agg _ _ (by rw [fV,hl]) fun i v d hv hd'=>?_
    rw [k9] at hd'
    cases hx:ds[i]? with
    | none=>rw [hx] at hd'; cases hd'
    | some x=>rw [hx] at hd'; cases hd'; exact ih i v x hv hx (zc hn i x hx)
  | tup vs ds hl h ih =>
    intro hn
    rw [newV] at hn
    rw [V.view]
    refine .tup _ _ (by rw [fV,hl]) fun i v d hv hd'=>?_
    rw [k9] at hd'
    cases hx:ds[i]? with
    | none=>rw [hx] at hd'; cases hd'
    | some x=>rw [hx] at hd'; cases hd'; exact ih i v x hv hx (zc hn i x hx)
  | ptr o' k i j b hn hb hi=>intro h;cases h
  | row o' k a n c hn hl hc hm h0 =>
    intro hnew
    rw [newV] at hnew
    unfold MB at hnew
    split at hnew
    · next e t l hg =>
      rw [Bool.and_eq_true] at hnew
      have hk:t.k = k:=Nat.eq_of_beq_eq_true hnew.1
      subst hk
      rw [V.view]
      unfold ss
      rw [hg]
      simp only [show Nat.beq t.k t.k = true by simp,cond_true]
      have hr:aj E w (.slice a n c) (.row o' t.k):=.row o' t.k a n c hn hl hc hm h0
      have has:bV H t (.row o' t.k) = some (l):=by simp [bV,hg,lP]
      obtain ⟨news,hsrc⟩:=nU hH hr has
      have hE:∃ E2:au,Iv E2 w (.slice a n c) t.k (l).length (Go.Ax.els t (l)) news∧(∀ b,E2.ok b→ok' b)∧(∀ q b,E2.live q→E2.conc q = some b→ok' b):=by
        refine ⟨{ E with ok:=ok' }, ?_,fun _ h=>h,hown⟩
        exact { hsrc with
          blk:=fun ad n' c' he hn'=>by
            rcases hsrc.blk ad n' c' he hn' with h | h
            · cases he
              rcases h0 with ⟨h0,_⟩ | ⟨b,hb,hab,_⟩
              · cases h0
              · cases hab
                exact .inl (hown o' b hn hb)
            · exact .inr h
          rep:=fun i j d u hi hd hu=>uj (hsrc.rep i j d u hi hd hu) (B4 hnew.2 d (List.mem_of_getElem? hd)) }
      obtain ⟨E2,hsrc2,hok2,hown2⟩:=hE
      exact .c _ _ (sa hok2 hown2 hsrc2)
    · cases hnew
  | sub o' k off n a c hn hc hm hl ha =>
    intro hnew
    rw [newV] at hnew
    unfold MB at hnew
    split at hnew
    · next e t l hg =>
      rw [Bool.and_eq_true] at hnew
      have hk:t.k = k:=Nat.eq_of_beq_eq_true hnew.1
      subst hk
      rw [V.view]
      unfold tf
      rw [hg]
      simp only [show Nat.beq t.k t.k = true by simp,cond_true]
      have hr:aj E w (.slice a n c) (.sub o' t.k off n):=.sub o' t.k off n a c hn hc hm hl ha
      have has:bV H t (.sub o' t.k off n) = some (af l off n):=by simp [bV,hg,lP]
      obtain ⟨news,hsrc⟩:=nU hH hr has
      have hE:∃ E2:au,Iv E2 w (.slice a n c) t.k (af l off n).length (Go.Ax.els t (af l off n)) news∧(∀ b,E2.ok b→ok' b)∧(∀ q b,E2.live q→E2.conc q = some b→ok' b):=by
        refine ⟨{ E with ok:=ok' }, ?_,fun _ h=>h,hown⟩
        exact { hsrc with
          blk:=fun ad n' c' he hn'=>by
            rcases hsrc.blk ad n' c' he hn' with h | h
            · cases he
              have hn0:0 < n:=by
                have:(af l off n).length≤n:=by simp [af];omega
                have:=hn'
                omega
              obtain ⟨b,hb,hab⟩:=ha hn0
              cases hab
              exact .inl (hown o' b hn hb)
            · exact .inr h
          rep:=fun i j d u hi hd hu=>uj (hsrc.rep i j d u hi hd hu) (B4 hnew.2 d (List.mem_of_getElem? hd)) }
      obtain ⟨E2,hsrc2,hok2,hown2⟩:=hE
      exact .c _ _ (sa hok2 hown2 hsrc2)
    · cases hnew
  | dptr k cs j ad u hok' hcell hl hu=>intro h;cases h
  | fn f vs ds hl h ih=>intro h;cases h
theorem Ou {ok:Nat→Prop} {W:World} (hs:bn N ⟨W,ok,fun _=>False,fun _=>undef⟩ σ E a w) {u:Value} {v:V} (hr:aj E w u v) {out:jY} (ho:rK out σ.hp v):zT ok W w u out:=by
 have hsown:∀ o b,E.live o→E.conc o = some b→W.heap.size≤b:=fun o b h1 h2=>(hs.own o b h1 h2).resolve_right (fun h=>h)
 have hE:∀ b,E.ok b→ok b∨(W.heap.size≤b∧b < w.heap.size):=by
  intro b hb
  rcases hs.okold b hb with h | h | h
  ·exact .inl h
  ·exact .inr ⟨h,hs.heap.oklt b hb⟩
  ·exact h.elim
 cases out with
 | data d =>
  simp only [rK] at ho
  exact (BI hs.heap (ok':=fun b=>ok b∨(W.heap.size≤b∧b < w.heap.size)) hE hr (.inl fun q b hq hb=>.inr ⟨hsown q b hq hb,hs.heap.lt q b hq hb⟩)).le ho
 | new d =>
  simp only [rK] at ho
  exact (O4 hs.heap (ok':=fun b=>W.heap.size≤b∧b < w.heap.size) (fun q b hq hb=>⟨hsown q b hq hb,hs.heap.lt q b hq hb⟩) hr ho.2).le ho.1
 | own fr e t l =>
  simp only [rK] at ho
  rcases ho with ⟨rfl,rfl⟩ | ⟨o,rfl,hg,hfr⟩
  ·rw [hr.nil_inv]
   exact ⟨[],World.ownsRow_nil w _ e _,fun i j u hi=>by simp at hi,fun i j d u hi=>by simp at hi⟩
  obtain ⟨xs,h1,h2,h4,h5⟩:=D4 hs.heap hg hr
  have hlive:=(hs.heap.at_ _ _ hg).1
  refine ⟨xs, ?_,h4,fun i j d x hi hd hx=>?_⟩
  ·rcases h1 with ⟨g1,g2⟩
   refine ⟨g1, ?_⟩
   rcases g2 with g2 | ⟨g,cap,cur,e1,e2,e3⟩
   ·exact .inl g2
   ·refine .inr ⟨g,cap,cur,e1, ?_,e3⟩
    have:E.conc o = some g:=by rw [← h2,e1];rfl
    exact hsown o g hlive this
  ·have hrep:=h5 i j d x hi hd hx
   cases fr with
   | true=>exact uj hrep (B4 (hfr rfl) d (List.mem_of_getElem? hd))
   | false =>
    refine aK.mono (ok:=E.ok) (w:=w) (w':=w) (fun b hb=>?_) (fun _ _=>rfl) hrep
    rcases hE b hb with h | ⟨h,h'⟩
    ·exact .inl ⟨rfl,h⟩
    ·refine .inr ⟨h,h',fun e=>?_⟩
     exact hs.heap.sep o b hlive (h2 ▸ e) hb
theorem kT {f:FuncId} {fn:Func} {c:Code} (hf:P.funcs[f]? = some fn) (hb:fn.body = some c) (hn:(fn.name == "runtime.NumGoroutine") = false) (args:Array Value) (w:World):(callFunc f args).run P w = .ok (.enter f args) w:=by
 have h1:fn.name ≠ "runtime.NumGoroutine" := by simpa using hn
 simp [callFunc,hf,h1,hb,Sem.run]
end
end Go.Ax
namespace Go.Ax
open Go.RowKit
structure bF (P:Program) (N:Nat) (c:Code) (K:Exit→St→Prop) (σ:St):Prop where
  ok:∀ (B:fh) (E:au) (a:Act) (w:World),bn N B σ E a w→c.wp P (KS N B K) a w
section
variable {P:Program} {C:FuncId→Option CC} {N:Nat} {c x y:Code} {K K':Exit→St→Prop} {σ σ':St}
theorem bF.mono (h:bF P N c K σ) (hk:∀ e σ,K e σ→K' e σ):bF P N c K' σ :=
 ⟨fun B E a w hs=>wp_mono (h.ok B E a w hs) fun _ _ _ ⟨σ',E',h1,h2⟩=>⟨σ',E',hk _ _ h1,h2⟩⟩
theorem bF.ent (he:dj σ σ') (h:bF P N c K σ'):bF P N c K σ :=
 ⟨fun B E a w hs=>by
  obtain ⟨E',hs'⟩:=he.sim N B E a w hs
  exact h.ok B E' a w hs'⟩
theorem bF.seq (h:bF P N x (LY (bF P N y K) K) σ):bF P N (.seq x y) K σ :=
 ⟨fun B E a w hs=>by
  refine wp_seq (wp_mono (h.ok B E a w hs) ?_)
  rintro e a' w' ⟨σ',E',hk,hs'⟩
  cases e with
  | normal=>exact hk.ok B E' a' w' hs'
  | exit id=>exact ⟨σ',E',hk,hs'⟩
  | goto l=>exact ⟨σ',E',hk,hs'⟩
  | ret=>exact ⟨σ',E',hk,hs'⟩
  | panic ch=>exact ⟨σ',E',hk,hs'⟩
  | outgrown=>exact ⟨σ',E',hk,hs'⟩⟩
theorem bF.block {id:Nat} (h:bF P N x (MQ id K) σ):bF P N (.block id x) K σ :=
 ⟨fun B E a w hs=>by
  refine wp_block (wp_mono (h.ok B E a w hs) ?_)
  rintro e a' w' ⟨σ',E',hk,hs'⟩
  cases e with
  | normal=>exact ⟨σ',E',hk,hs'⟩
  | exit id' =>
   show if id' = id then KS N B K .normal a' w' else KS N B K (.exit id') a' w'
   simp only [MQ] at hk
   by_cases hid:id' = id
   ·subst hid
    rw [show Nat.beq id' id' = true by simp,cond_true] at hk
    rw [if_pos rfl];exact ⟨σ',E',hk,hs'⟩
   ·rw [C8 hid,cond_false] at hk
    rw [if_neg hid];exact ⟨σ',E',hk,hs'⟩
  | goto l=>exact ⟨σ',E',hk,hs'⟩
  | ret=>exact ⟨σ',E',hk,hs'⟩
  | panic ch=>exact ⟨σ',E',hk,hs'⟩
  | outgrown=>exact ⟨σ',E',hk,hs'⟩⟩
theorem bF.cond {o:Operand} {b:Bool} (hb:bM σ [] o = some (bl b)) (ht:b = true→bF P N x K σ) (hf:b = false→bF P N y K σ):bF P N (.cond o x y) K σ :=
 ⟨fun B E a w hs=>by
  have hv:a.eval o = .bool b:=(co hs (ch:=[]) rfl hb).lit_inv
  exact wp_cond_split hv (fun h=>(ht h).ok B E a w hs) fun h=>(hf h).ok B E a w hs⟩
theorem bF.loop (I:Nat→St→Prop) (m:Nat) (σ0:St) (h1:dj σ σ0) (h2:I m σ0)
  (h3:∀ m σ,I m σ→bF P N x (LY (fun σ'=>∃ m' σ'',m' < m∧dj σ' σ''∧I m' σ'') K) σ):bF P N (.loop x) K σ :=
 ⟨fun B E a w hs=>by
  obtain ⟨E0,hs0⟩:=h1.sim N B E a w hs
  exact PT (fun K σ=>bF P N x K σ) x (fun K σ E a w h hs=>h.ok B E a w hs) I K h3 m σ0 E0 a w h2 hs0⟩
theorem bF.skip (h:K .normal σ):bF P N .skip K σ:=⟨fun _ E _ _ hs=>wp_skip ⟨σ,E,h,hs⟩⟩
theorem bF.exit {id:Nat} (h:K (.exit id) σ):bF P N (.exit id) K σ:=⟨fun _ E _ _ hs=>wp_exit ⟨σ,E,h,hs⟩⟩
theorem bF.ret (h:K .ret σ):bF P N .ret K σ:=⟨fun _ E _ _ hs=>wp_ret ⟨σ,E,h,hs⟩⟩
end
theorem IL {P:Program} {f:FuncId} {fn:Func} {c:Code} (hf:P.funcs[f]? = some fn) {con:KY} (hb:fn.body = some c) (hn:(fn.name == "runtime.NumGoroutine") = false)
  (h:∀ vs p out,con vs = some (p,out)→p = true→∃ vs',VLes vs vs'∧(vs'.length≤fn.ntmps∧fn.ntmps≤1000000)∧bF P fn.ntmps c (QU P fn.results.toList (rK out)) { tm:=kB vs' 0,hp:=[],nx:=0 }):Me P f con:=by
 intro ok w xs vs p out hx hok hcon hp
 obtain ⟨vs',hle,hN,hrun⟩:=h vs p out hcon hp
 refine .inl ⟨kT hf hb hn _ _, ?_⟩
 refine calls_of_wp hf hb (wp_mono (hrun.ok _ _ _ _ (Oq (hx.le hle) hok hN.1 hN.2)) ?_)
 rintro e a' w' ⟨σ',E',hk,hs'⟩
 have key:(match mB P σ' fn.results.toList with | some v=>(∀ x∈fn.results.toList,yq P σ' x)∧rK out σ'.hp v | none=>False)→a'.defers = []∧∃ v,(results fn a'.tmps).run P w' = .ok v w'∧∃ v',Ending.returned v = .returned v'∧(Below w.heap.size w w'∧zT ok w w' v' out):=by
  intro hk
  split at hk
  ·next v hv =>
   obtain ⟨u,h1,h2⟩:=AW hs' hv hk.1
   exact ⟨hs'.defers,u,h1,u,rfl,hs'.base.below,Ou hs' h2 hk.2⟩
  ·exact hk.elim
 cases e with
 | normal=>exact key hk
 | ret=>exact key hk
 | exit id=>exact hk.elim
 | goto l=>exact hk.elim
 | panic ch=>exact hk.elim
 | outgrown=>exact hk.elim
section
variable {σ σ':St}
def eY:List Nat→List (Nat × aF)→List (Nat × aF)
 | [],_=>[]
 | t :: r,tm=>match aw tm t with | some s=>(t,s) :: eY r tm | none=>eY r tm
def pu:List Nat→ae→ae
 | [],_=>[]
 | o :: r,H=>match ae.get H o with | some b=>(o,some b) :: pu r H | none=>pu r H
def l5 (o:Nat) (l:List Nat):Bool:=l.any fun q=>Nat.beq q o
def DG (os:List Nat) (s:aF):Bool:=s.ch.isEmpty&&(V.refs s.v).all fun o=>l5 o os
def JA (os:List Nat):Ob→Bool
 | .box cs=>(V.refss cs).all fun o=>l5 o os
 | .iter m _ _=>(V.refs m).all fun o=>l5 o os
 | .row ..=>true
 | .raw _=>true
 | .map ..=>true
def canon (ts os:List Nat) (nx:Nat) (σ:St):St:={ tm:=eY ts σ.tm,hp:=pu os σ.hp,nx:=nx }
def EM (ts os:List Nat) (nx:Nat) (σ:St):Bool :=
 (eY ts σ.tm).all (fun x=>DG os x.2)&&(pu os σ.hp).all (fun x=>match x.2 with | some b=>JA os b | none=>false)&&os.all (fun o=>Nat.blt o nx)
theorem jL {o:Nat} {l:List Nat} (h:l5 o l = true):o∈l:=by
 obtain ⟨q,hq,hb⟩:=List.any_eq_true.1 h
 rw [← Nat.eq_of_beq_eq_true hb];exact hq
theorem ut:∀ (ts:List Nat) (tm:List (Nat × aF)) (t:Nat) (s:aF),aw (eY ts tm) t = some s→aw tm t = some s∧(t,s)∈eY ts tm
 | [],tm,t,s,h=>by simp [eY,aw] at h
 | q :: r,tm,t,s,h=>by
  unfold eY at h ⊢
  split at h
  ·next s' hs' =>
   rw [br] at h
   skip
   split at h
   ·next e=>subst e;cases h;exact ⟨hs',by simp⟩
   ·have:=ut r tm t s h
    exact ⟨this.1,List.mem_cons_of_mem _ this.2⟩
  ·next hs' =>
   skip
   exact ut r tm t s h
theorem tQ:∀ (os:List Nat) (H:ae) (o:Nat) (b:Ob),ae.get (pu os H) o = some b→ae.get H o = some b∧(o,some b)∈pu os H∧o∈os
 | [],H,o,b,h=>by simp [pu,ae.get] at h
 | q :: r,H,o,b,h=>by
  unfold pu at h ⊢
  split at h
  ·next s' hs' =>
   rw [ae.get_cons] at h
   skip
   split at h
   ·next e=>subst e;cases h;exact ⟨hs',by simp,by simp⟩
   ·have:=tQ r H o b h
    exact ⟨this.1,List.mem_cons_of_mem _ this.2.1,List.mem_cons_of_mem _ this.2.2⟩
  ·next hs' =>
   skip
   have:=tQ r H o b h
   exact ⟨this.1,this.2.1,List.mem_cons_of_mem _ this.2.2⟩
theorem aj.only {E:au} {w:World} {os:List Nat} {v:Value} {d:V} (h:aj E w v d):(∀ o∈V.refs d,o∈os)→aj { E with live:=fun o=>E.live o∧o∈os } w v d:=by
 induction h with
 | c v d h=>exact fun _=>.c v d h
 | agg vs ds hl h ih =>
  intro hr
  exact .agg vs ds hl fun i v d hv hd=>ih i v d hv hd fun o ho=>hr o (ca hd ho)
 | tup vs ds hl h ih =>
  intro hr
  exact .tup vs ds hl fun i v d hv hd=>ih i v d hv hd fun o ho=>hr o (ca hd ho)
 | ptr o k i j b h1 h2 h3=>exact fun hr=>.ptr o k i j b ⟨h1,hr o (by simp [V.refs])⟩ h2 h3
 | row o k a n c hn hl hc hm h0=>exact fun hr=>.row o k a n c ⟨hn,hr o (by simp [V.refs])⟩ hl hc hm h0
 | sub o k off n a c hn hc hm hl ha=>exact fun hr=>.sub o k off n a c ⟨hn,hr o (by simp [V.refs])⟩ hc hm hl ha
 | dptr k cs j ad u h1 h2 h3 h4=>exact fun _=>.dptr k cs j ad u h1 h2 h3 h4
 | fn f vs ds hl h ih =>
  intro hr
  exact .fn f vs ds hl fun i v d hv hd=>ih i v d hv hd fun o ho=>hr o (ca hd ho)
theorem dj.canon (ts os:List Nat) (nx:Nat) (h:EM ts os nx σ = true):dj σ (canon ts os nx σ):=by
 unfold EM at h
 simp only [Bool.and_eq_true] at h
 obtain ⟨⟨h1,h2⟩,h3⟩:=h
 refine ⟨fun N B E a w hs=>⟨{ E with live:=fun o=>E.live o∧o∈os },hs.size,hs.small,hs.defers,fun q hq hl=>?_,⟨fun o ob ho=>?_,fun o o' b a b'=>hs.heap.inj o o' b a.1 b'.1,fun o b a=>hs.heap.sep o b a.1,fun o b a=>hs.heap.lt o b a.1,hs.heap.oklt⟩,fun t s hg=>?_,hs.base,fun o b a=>hs.own o b a.1,hs.okold⟩⟩
 ·have:=List.all_eq_true.1 h3 q hl.2
  simp only [Nat.blt_eq] at this
  have hq':nx≤q:=hq
  omega
 ·obtain ⟨g1,g2,g3⟩:=tQ os σ.hp o ob ho
  obtain ⟨l1,l2⟩:=hs.heap.at_ o ob g1
  refine ⟨⟨l1,g3⟩, ?_⟩
  have hok:=List.all_eq_true.1 h2 _ g2
  cases ob with
  | box cs =>
   obtain ⟨e1,b,Cs,t,e2,e3,e4⟩:=l2
   refine ⟨e1,b,Cs,t,e2,e3,e4.1,fun i v d hv hd=>(e4.2 i v d hv hd).only fun q hq=>?_⟩
   exact jL (List.all_eq_true.1 hok q (ca hd hq))
  | row e t l=>exact l2
  | raw x=>exact l2
  | map=>exact l2
  | iter m s0 l0 =>
   obtain ⟨e1,b,bm,s,seen,c,e2,e3,e4,e5⟩:=l2
   exact ⟨e1,b,bm,s,seen,c,e2,e3,e4,e5.only fun q hq=>jL (List.all_eq_true.1 hok q hq)⟩
 ·obtain ⟨g1,g2⟩:=ut ts σ.tm t s hg
  have hok:=List.all_eq_true.1 h1 _ g2
  unfold DG at hok
  simp only [Bool.and_eq_true,List.isEmpty_iff] at hok
  have hh:=hs.slots t s g1
  refine ⟨fun _=>(hh.1 (by rw [hok.1];rfl)).only fun q hq=>jL (List.all_eq_true.1 hok.2 q hq),fun _ h=>?_⟩
  rw [hok.1] at h
  simp [holds] at h
end
end Go.Ax
namespace Go.Ax
open Go.RowKit
def Jd:Ob→Ob→Prop
 | .box cs, .box cs'=>VLes cs cs'
 | .row e t l,b=>.row e t l = b
 | .raw x,b=>.raw x = b
 | .map t kt vt ks vs,b=>.map t kt vt ks vs = b
 | .iter m s l, .iter m' s' l'=>VLe m m'∧s = s'∧l = l'
 | _,_=>False
def BC (tm:List (Nat × aF)):List (Nat × aF)→Prop
 | []=>True
 | (t,s') :: r=>(match aw tm t with | some s=>s.ch = []∧s'.ch = []∧VLe s.v s'.v | none=>False)∧BC tm r
def sB (H:ae):ae→Prop
 | []=>True
 | (_,none) :: _=>False
 | (o,some b') :: r=>(match ae.get H o with | some b=>Jd b b' | none=>False)∧sB H r
def QX (σ σ':St):Prop:=BC σ.tm σ'.tm∧sB σ.hp σ'.hp∧σ.nx≤σ'.nx
section
variable {σ σ':St} {E:au} {a:Act} {w:World} {N:Nat} {B:fh}
theorem Hc:∀ {tm tm':List (Nat × aF)},BC tm tm'→∀ t s',aw tm' t = some s'→∃ s,aw tm t = some s∧s.ch = []∧s'.ch = []∧VLe s.v s'.v
 | tm,[],_,t,s',h=>by simp [aw] at h
 | tm,(q,x) :: r,hl,t,s',h=>by
  rw [BC] at hl
  rw [br] at h
  split at h
  ·next e =>
   subst e;cases h
   have h1:=hl.1
   cases hg:aw tm q with
   | none=>rw [hg] at h1;exact h1.elim
   | some s=>rw [hg] at h1;exact ⟨s,rfl,h1⟩
  ·exact Hc hl.2 t s' h
theorem HV:∀ {H H':ae},sB H H'→∀ o b',ae.get H' o = some b'→∃ b,ae.get H o = some b∧Jd b b'
 | H,[],_,o,b',h=>by simp [ae.get] at h
 | H,(q,none) :: r,hl,o,b',h=>by simp [sB] at hl
 | H,(q,some x) :: r,hl,o,b',h=>by
  rw [sB] at hl
  rw [ae.get_cons] at h
  split at h
  ·next e =>
   subst e;cases h
   have h1:=hl.1
   cases hg:ae.get H q with
   | none=>rw [hg] at h1;exact h1.elim
   | some s=>rw [hg] at h1;exact ⟨s,rfl,h1⟩
  ·exact HV hl.2 o b' h
theorem jy.le {o:Nat} {b b':Ob} (h:jy E w o b) (hl:Jd b b'):jy E w o b':=by
 cases b with
 | box cs =>
  cases b' with
  | box cs' =>
   obtain ⟨e1,b,Cs,t,e2,e3,e4⟩:=h
   exact ⟨e1,b,Cs,t,e2,e3,e4.le hl⟩
  | row=>exact hl.elim
  | raw x=>exact hl.elim
  | map=>exact hl.elim
  | iter=>exact hl.elim
 | iter m s0 l0 =>
  cases b' with
  | iter m' s1 l1 =>
   obtain ⟨e1,b,bm,s,seen,c,e2,e3,e4,e5⟩:=h
   obtain ⟨hl,rfl,rfl⟩:=hl
   exact ⟨e1,b,bm,s,seen,c,e2,e3,e4,e5.le hl⟩
  | row=>exact hl.elim
  | raw x=>exact hl.elim
  | map=>exact hl.elim
  | box=>exact hl.elim
 | raw x=>have:Ob.raw x = b':=hl;subst this;exact h
 | map t kt vt ks vs=>have:Ob.map t kt vt ks vs = b':=hl;subst this;exact h
 | row e t l=>have:Ob.row e t l = b':=hl;subst this;exact h
theorem dj.le (h:QX σ σ'):dj σ σ':=by
 obtain ⟨h1,h2,h3⟩:=h
 refine ⟨fun N B E a w hs=>⟨E,hs.size,hs.small,hs.defers,fun q hq=>hs.live q (Nat.le_trans h3 hq),⟨fun o ob ho=>?_,hs.heap.inj,hs.heap.sep,hs.heap.lt,hs.heap.oklt⟩,fun t s hg=>?_,hs.base,hs.own,hs.okold⟩⟩
 ·obtain ⟨b,g1,g2⟩:=HV h2 o ob ho
  obtain ⟨l1,l2⟩:=hs.heap.at_ o b g1
  exact ⟨l1,l2.le g2⟩
 ·obtain ⟨s',g1,g2,g3,g4⟩:=Hc h1 t s hg
  have hh:=hs.slots t s' g1
  refine ⟨fun _=>(hh.1 (by rw [g2];rfl)).le g4,fun _ h=>?_⟩
  rw [g3] at h
  simp [holds] at h
theorem dj.to (ts os:List Nat) (nx:Nat) (h:EM ts os nx σ = true) (hl:QX (Go.Ax.canon ts os nx σ) σ'):dj σ σ':=(dj.canon ts os nx h).trans (.le hl)
theorem dj.nilrow (t o:Nat) (e:TypeId) (ty:Ty) (hn:σ.nx≤o) (hg:aw σ.tm t = some ⟨[], .c .nil⟩):dj σ { tm:=(t,⟨[], .row o ty.k⟩) :: σ.tm,hp:=(o,some (.row e ty [])) :: σ.hp,nx:=o+1 }:=by
 refine ⟨fun N B E a w hs=>?_⟩
 have hf:¬ E.live o:=hs.live o hn
 have hS:dn E w [] (E.next o none 0 0 E.ok) w:=cH hf none 0 0 E.ok (.refl _ _) (by simp) (fun _ h=>h) (fun _ h=>.inl h)
 have hN:az (E.next o none 0 0 E.ok) w σ.hp:=cY hf hs.heap (.refl _ _) (by simp) (fun _ h=>h) (fun _ h=>.inl h) hs.heap.oklt
 have hown:∀ q b,(E.next o none 0 0 E.ok).live q→(E.next o none 0 0 E.ok).conc q = some b→B.W.heap.size≤b∨B.mb b:=by
  intro q b ho h
  rcases hS.concnew q b ho h with ⟨q,h1,h2⟩ | h
  ·exact hs.own q b h1 h2
  ·have:=hs.base.size;exact .inl (by omega)
 have hslot:∀ q s,aw σ.tm q = some s→(holds σ.tm s.ch = true→aj (E.next o none 0 0 E.ok) w (ea B a q) s.v):=fun q s hg' h=>fZ hs.heap hS ((hs.slots q s hg').1 h)
 have hbool:∀ q,bg (aw ((t,(⟨[], .row o ty.k⟩:aF)) :: σ.tm) q) = bg (aw σ.tm q):=by
  intro q
  rw [br]
  split
  ·next e=>subst e;rw [hg];rfl
  ·rfl
 refine ⟨_,hs.size,hs.small,hs.defers,fun q hq=>?_,⟨fun q ob ho=>?_,hN.inj,hN.sep,hN.lt,hN.oklt⟩,fun q s hq=>?_,hs.base,hown,hs.okold⟩
 ·have hq':o+1≤q:=hq
  rintro (h | h)
  ·omega
  ·exact hs.live q (by omega) h
 ·rw [ae.get_cons] at ho
  split at ho
  ·next e'=>subst e'; cases ho;exact ⟨.inl rfl,by simp [au.next], .inl ⟨by simp [au.next],rfl⟩⟩
  ·exact hN.at_ q ob ho
 ·rw [br] at hq
  split at hq
  ·next e' =>
   subst e'; cases hq
   refine ⟨fun _=>?_,fun _ h=>by simp [holds] at h⟩
   have hv:=(hs.slots t _ hg).1 rfl
   have:ea B a t = .slice none 0 0:=hv.nil_inv
   simp only
   rw [this]
   exact .row o ty.k none 0 0 (.inl rfl) (by simp [au.next]) (Nat.le_refl _) (by simp [maxLen]) (.inl ⟨rfl,rfl,rfl,by simp [au.next]⟩)
  ·refine fL (tm:=σ.tm) ⟨hslot q s hq,(hs.slots q s hq).2⟩ fun x _ _=>hbool x.1
end
section
variable {P:Program} {C:FuncId→Option CC} {fn:Func} {vs:List V} {Q Q':ae→V→Prop}
mutual
theorem VLe.rfl':∀ v:V,VLe v v
 | .c d=>by
  rw [VLe];exact .refl _
 | .agg vs=>by rw [VLe];exact VLes.rfl' vs
 | .tup vs=>by rw [VLe];exact VLes.rfl' vs
 | .ptr ..=>by simp [VLe]
 | .row ..=>by simp [VLe]
 | .sub ..=>by simp [VLe]
 | .dptr ..=>by rw [VLe];exact ⟨rfl,rfl, .refl _⟩
 | .fn f vs=>by rw [VLe];exact ⟨rfl,VLes.rfl' vs⟩
theorem VLes.rfl':∀ vs:List V,VLes vs vs
 | []=>trivial
 | v :: r=>⟨VLe.rfl' v,VLes.rfl' r⟩
end
end
section
variable {P:Program} {C:FuncId→Option CC} {N:Nat} {c:Code} {K:Exit→St→Prop} {σ:St}
end
end Go.Ax
