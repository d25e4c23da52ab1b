import Derived.Test.YtgamnldjlncdlaaGreatZA2
set_option linter.all false
/- A region that draws its order: whatever the order, it ends as the text's order ends. -/
namespace Go.Ax
open Go.RowKit
section
variable {P:Program} {N:Nat} {B:j5} {σ σ':St} {E:br} {a:Act} {w:World} {C:FuncId→Option CC} {all:List Oper}
structure p5 (σ σ':St):Prop where
  tm:∀ t,bv σ.tm t = bv σ'.tm t
  hp:∀ o,am.get σ.hp o = am.get σ'.hp o
theorem p5.refl (σ:St):p5 σ σ:=⟨fun _=>rfl,fun _=>rfl⟩
theorem p5.symm (h:p5 σ σ'):p5 σ' σ:=⟨fun t=>(h.tm t).symm,fun o=>(h.hp o).symm⟩
theorem p5.trans {σ'':St} (h:p5 σ σ') (h':p5 σ' σ''):p5 σ σ'':=⟨fun t=>(h.tm t).trans (h'.tm t),fun o=>(h.hp o).trans (h'.hp o)⟩
theorem p5.after (h:p5 σ σ') (r:fw):p5 (after σ r) (after σ' r) :=
  ⟨fun t=>by rw [kw,kw,h.tm t],fun o=>by rw [kh,kh,h.hp o]⟩
theorem p5.recOf (h:p5 σ σ') {nid:Nat} {o:Oper} {rc:fw} (hr:recOf P C N all σ nid o = some rc):recOf P C N all σ' nid o = some rc∧holds σ'.tm rc.ch = holds σ.tm rc.ch :=
  AE hr (fun t _=>(h.tm t).symm) ⟨fun o _=>h.hp o,fun _ _ _ _ q _=>h.hp q⟩
theorem AN (kl:List Nat):∀ cs:List V,fY kl (some (.box cs)) = some (.box (cs.map (V.killAll kl))):=by
  have hk:∀ (o:Nat) (cs:List V),V.kills o cs = cs.map (V.kill o):=by
    intro o cs
    induction cs with
    | nil=>rfl
    | cons v r ih=>rw [V.kills,ih]; rfl
  induction kl with
  | nil=>intro cs; simp [fY,V.killAll]
  | cons o r ih =>
    intro cs
    rw [fY,vv,ih,hk,List.map_map]
    rfl
theorem Ap (kl:List Nat) (t k n:Nat) (el:Nat→List D):fY kl (some (.row t k n el)) = some (.row t k n el):=by
  induction kl with
  | nil=>rfl
  | cons o r ih=>rw [fY]; exact ih
theorem An (kl:List Nat) (x:Obj):fY kl (some (.raw x)) = some (.raw x):=by
  induction kl with
  | nil=>rfl
  | cons o r ih=>rw [fY]; exact ih
theorem yJ (kl:List Nat):fY kl none = none:=by
  induction kl with
  | nil=>rfl
  | cons o r ih=>rw [fY]; exact ih
theorem ww {kl:List Nat} {b:Option Ob} (h:∀ q∈tL b,q ∉ kl):fY kl b = b:=by
  cases b with
  | none=>exact yJ kl
  | some b =>
    cases b with
    | row t k n el=>exact Ap kl t k n el
    | raw x=>exact An kl x
    | box cs =>
      rw [AN]
      congr 2
      have:∀ l:List V,(∀ q∈V.refss l,q ∉ kl)→l.map (V.killAll kl) = l:=by
        intro l
        induction l with
        | nil=>intro _; rfl
        | cons v r ih =>
          intro hl
          rw [List.map_cons,oh kl v fun q hq=>hl q (by simp [V.refss,hq]),ih fun q hq=>hl q (by simp [V.refss,hq])]
      exact this cs h
theorem Ni {kl:List Nat} {b:Option Ob} (h:Oa (fY kl b) = true):fY kl b = b:=by
  cases b with
  | none=>exact yJ kl
  | some b =>
    cases b with
    | row t k n el=>exact Ap kl t k n el
    | raw x=>exact An kl x
    | box cs =>
      rw [AN] at h ⊢
      congr 2
      have:∀ l:List V,V.noUnks (l.map (V.killAll kl)) = true→l.map (V.killAll kl) = l:=by
        intro l
        induction l with
        | nil=>intro _; rfl
        | cons v r ih =>
          intro hl
          rw [List.map_cons,V.noUnks,Bool.and_eq_true] at hl
          rw [List.map_cons,wu kl v hl.1,ih hl.2]
      exact this cs h
theorem HX {H:am} {q:Nat}:∀ p∈tL (am.get H q),p∈Hr H:=by
  induction H with
  | nil=>intro p hp; simp [am.get,tL] at hp
  | cons x H ih =>
    obtain ⟨o,b⟩:=x
    intro p hp
    rw [am.get_cons] at hp
    unfold Hr
    rw [List.flatMap_cons,List.mem_append]
    split at hp
    · exact .inl hp
    · exact .inr (ih p hp)
theorem tU (dst:Option Nat) (kl:List Nat) (s:bz):ta dst ⟨s.ch,s.v.killAll kl⟩ = ⟨(ta dst s).ch,(ta dst s).v.killAll kl⟩:=by
  unfold ta
  cases dst with
  | none=>rfl
  | some d =>
    simp only
    cases s.ch.any (fun y=>Nat.beq y.1 d) with
    | false=>rfl
    | true =>
      simp only [cond_true]
      have:∀ kl:List Nat,(V.c D.unk).killAll kl = V.c D.unk:=by
        intro kl
        induction kl with
        | nil=>rfl
        | cons o r ih=>rw [V.killAll,V.kill,ih]
      rw [this]
theorem Ri (d d':Option Nat) (s:bz):ta d (ta d' s) = ta d' (ta d s):=by
  unfold ta
  cases d with
  | none=>rfl
  | some d =>
    cases d' with
    | none=>rfl
    | some d' =>
      simp only
      cases h1:s.ch.any (fun y=>Nat.beq y.1 d) <;> cases h2:s.ch.any (fun y=>Nat.beq y.1 d') <;> simp [h1,h2]
theorem P6 {d:Option Nat} {s:bz} (h:∀ x∈s.ch,x.1 ∉ pI d):ta d s = s:=by
  unfold ta
  cases d with
  | none=>rfl
  | some d =>
    simp only
    have:s.ch.any (fun z=>Nat.beq z.1 d) = false:=by
      refine List.any_eq_false.2 fun x hx=>?_
      intro hb
      exact h x hx (by simp [pI,Nat.eq_of_beq_eq_true hb])
    rw [this]
    rfl
structure am4 (x y:fw):Prop where
  rds:∀ t,t∈pI x.dst→t ∉ y.rds
  dst:∀ t,t∈pI x.dst→t ∉ pI y.dst
  reach:∀ q,q∈hT x.res.eff→q ∉ y.reach
  keys:∀ q,q∈hT x.res.eff→q ∉ hT y.res.eff
  kill:x.res.kill = []∨((y.rws.1 = true∧∀ q∈x.res.kill,q ∉ y.reach∧q ∉ y.res.val.refs)∧(∀ q∈x.res.kill,q ∉ y.rws.2∧q ∉ Hr y.res.eff)∧y.res.kill = [])
theorem JC {x y:fw} (h:N7 x y = true):am4 x y:=by
  unfold N7 at h
  simp only [Bool.and_eq_true,Bool.or_eq_true,List.isEmpty_iff,Bool.not_eq_true'] at h
  obtain ⟨⟨h1,h2⟩,h3⟩:=h
  have g1:=rn h1
  have g2:=rn h2
  refine ⟨fun t ht hn=>g1 t ht (List.mem_append_left _ hn),fun t ht hn=>g1 t ht (List.mem_append_right _ hn),fun q hq hn=>g2 q hq (List.mem_append_left _ hn),fun q hq hn=>g2 q hq (List.mem_append_right _ hn), ?_⟩
  rcases h3 with h3 | ⟨⟨a1,a2⟩,a4⟩
  · exact .inl h3
  · refine .inr ⟨⟨a1,fun q hq=>⟨fun hn=>rn a2 q hq ?_,fun hn=>rn a2 q hq ?_⟩⟩,fun q hq=>⟨fun hn=>rn a2 q hq ?_,fun hn=>rn a2 q hq ?_⟩,a4⟩ <;> simp [hn]
theorem swap {nj ni:Nat} {oj oi:Oper} {rj ri:fw} (hj:recOf P C N all σ nj oj = some rj) (hi:recOf P C N all (after σ rj) ni oi = some ri) (hind:xl rj ri = true) :
    recOf P C N all σ ni oi = some ri∧recOf P C N all (after σ ri) nj oj = some rj∧p5 (after (after σ ri) rj) (after (after σ rj) ri)∧holds σ.tm ri.ch = holds (after σ rj).tm ri.ch∧holds (after σ ri).tm rj.ch = holds σ.tm rj.ch:=by
  unfold xl at hind
  simp only [Bool.and_eq_true] at hind
  obtain ⟨⟨⟨hb1,hb2⟩,hnj⟩,hni⟩:=hind
  have bji:=JC hb1
  have bij:=JC hb2
  have back:=AE (σ':=σ) hi (fun t ht=>by
      obtain ⟨s,g1,g2,_,_⟩:=MP hi hni ht
      rw [Vs g1 (fun hd=>bji.rds t hd ht) g2,g1])
    (AJ fun q hq=>by
      obtain ⟨_,_,_,_,_,_,_,_,e,e'⟩:=ji hi
      have hq':=hq
      rw [← e] at hq
      rcases bji.kill with hk | ⟨⟨hk,_⟩,_⟩
      · rw [kh,if_neg (fun hk=>bji.reach q hk hq),hk]; rfl
      · rw [e'] at hk
        have hrow:=List.all_eq_true.1 hk q hq'
        rw [kh,if_neg (fun hk=>bji.reach q hk hq)] at hrow ⊢
        exact Ni hrow)
  have forth:=AE (σ':=after σ ri) hj (fun t ht=>by
      obtain ⟨s,g1,_,g3,g4⟩:=MP hj hnj ht
      rw [g1]
      refine SI g1 (fun hd=>bij.rds t hd ht) ?_ fun x hx hd=>bij.rds _ hd (g3 x hx)
      intro q hq hqk
      rcases bij.kill with hk | ⟨⟨_,hk⟩,_⟩
      · rw [hk] at hqk; simp at hqk
      · obtain ⟨_,_,_,_,_,_,_,_,e,_⟩:=ji hj
        exact (hk q hqk).1 (by rw [e]; exact MC (g4 q hq)))
    (AJ fun q hq=>by
      obtain ⟨_,_,_,_,_,_,_,_,e,e'⟩:=ji hj
      have hq':=hq
      rw [← e] at hq
      rw [kh,if_neg (fun hk=>bij.reach q hk hq)]
      rcases bij.kill with hk | ⟨_,hk,_⟩
      · rw [hk]; rfl
      · refine (ww fun p hp hpk=>(hk p hpk).1 ?_).symm
        rw [e']
        exact List.mem_flatMap.2 ⟨q,hq',hp⟩)
  refine ⟨back.1,forth.1,⟨fun t=>?_,fun q=>?_⟩,back.2,forth.2⟩
  · have chi:∀ x∈ri.ch,x.1 ∉ pI rj.dst:=fun x hx hd=>by
      obtain ⟨_,_,_,_,_,_,_,e,_,_⟩:=ji hi
      exact bji.rds _ hd (by rw [e]; exact List.mem_append_right _ (List.mem_map.2 ⟨x,hx,rfl⟩))
    have chj:∀ x∈rj.ch,x.1 ∉ pI ri.dst:=fun x hx hd=>by
      obtain ⟨_,_,_,_,_,_,_,e,_,_⟩:=ji hj
      exact bij.rds _ hd (by rw [e]; exact List.mem_append_right _ (List.mem_map.2 ⟨x,hx,rfl⟩))
    have vi:ri.res.val.killAll rj.res.kill = ri.res.val:=by
      rcases bji.kill with hk | ⟨⟨_,hk⟩,_⟩
      · rw [hk]; rfl
      · exact oh _ _ fun q hq hqk=>(hk q hqk).2 hq
    have vj:rj.res.val.killAll ri.res.kill = rj.res.val:=by
      rcases bij.kill with hk | ⟨⟨_,hk⟩,_⟩
      · rw [hk]; rfl
      · exact oh _ _ fun q hq hqk=>(hk q hqk).2 hq
    rw [kw (σ:=after σ ri) rj t,kw (σ:=σ) ri t,kw (σ:=after σ rj) ri t,kw (σ:=σ) rj t]
    by_cases h1:ri.dst = some t
    · have h2:¬ rj.dst = some t:=fun e=>bij.dst t (D5.2 h1) (D5.2 e)
      rw [if_pos h1,if_neg h2,if_pos h1]
      simp only [Option.map_some,vi]
      rw [P6 chi]
    · by_cases h2:rj.dst = some t
      · rw [if_pos h2,if_neg h1,if_pos h2]
        simp only [Option.map_some,vj]
        rw [P6 chj]
      · rw [if_neg h2,if_neg h1,if_neg h1,if_neg h2]
        cases bv σ.tm t with
        | none=>rfl
        | some s =>
          simp only [Option.map_some,Option.some.injEq]
          rw [tU,tU,tU,tU]
          have hkk:rj.res.kill = []∨ri.res.kill = []:=by
            rcases bji.kill with hk | ⟨_,_,hk⟩
            · exact .inl hk
            · exact .inr hk
          rcases hkk with hk | hk
          · rw [hk]
            simp only [V.killAll]
            rw [Ri rj.dst ri.dst s]
          · rw [hk]
            simp only [V.killAll]
            rw [Ri rj.dst ri.dst s,tU rj.dst rj.res.kill s,tU ri.dst rj.res.kill (ta rj.dst s)]
  · rw [kh (σ:=after σ ri) rj q,kh (σ:=σ) ri q,kh (σ:=after σ rj) ri q,kh (σ:=σ) rj q]
    by_cases h1:q∈hT ri.res.eff
    · have h2:q ∉ hT rj.res.eff:=bij.keys q h1
      rw [if_neg h2,if_pos h1,if_pos h1]
      rcases bji.kill with hk | ⟨_,hk,_⟩
      · rw [hk]; rfl
      · exact ww fun p hp hpk=>(hk p hpk).2 (HX p hp)
    · by_cases h2:q∈hT rj.res.eff
      · rw [if_pos h2,if_neg h1,if_pos h2]
        rcases bij.kill with hk | ⟨_,hk,_⟩
        · rw [hk]; rfl
        · exact (ww fun p hp hpk=>(hk p hpk).2 (HX p hp)).symm
      · rw [if_neg h2,if_neg h1,if_neg h1,if_neg h2]
        rcases bji.kill with hk | ⟨_,_,hk⟩
        · rw [hk]; rfl
        · rw [hk]; rfl
inductive mw (P:Program) (C:FuncId→Option CC) (N:Nat) (ops:Array Oper) (n0:Nat) (σf:St):St→List (Nat × fw)→Prop
  | done (σ:St) (h:p5 σ σf):mw P C N ops n0 σf σ []
  | step (σ:St) (i:Nat) (o:Oper) (r:fw) (L:List (Nat × fw)) (hi:ops[i]? = some o) (hr:recOf P C N ops.toList σ (n0+i) o = some r) (hp:∀ p∈GT σ.tm r.ch r.res.pre,p)
      (h:mw P C N ops n0 σf (after σ r) L):mw P C N ops n0 σf σ ((i,r) :: L)
variable {ops:Array Oper} {n0:Nat} {σf:St}
theorem DB {tm tm':List (Nat × bz)} {ch:cJ} (h:holds tm' ch = holds tm ch) (ps:List Prop):GT tm' ch ps = GT tm ch ps:=by
  unfold GT
  cases ch with
  | nil=>rfl
  | cons x l=>simp only [h]
theorem mw.eqv {L:List (Nat × fw)} (h:mw P C N ops n0 σf σ L):∀ {σ':St},p5 σ σ'→mw P C N ops n0 σf σ' L:=by
  induction h with
  | done σ h=>exact fun e=>.done _ (e.symm.trans h)
  | step σ i o r L hi hr hp h ih =>
    intro σ' e
    obtain ⟨h1,h2⟩:=e.recOf hr
    exact .step σ' i o r L hi h1 (by rw [DB h2]; exact hp) (ih (e.after r))
theorem mw.swap {i j:Nat} {ri rj:fw} {L:List (Nat × fw)} (h:mw P C N ops n0 σf σ ((j,rj) :: (i,ri) :: L)) (hind:xl rj ri = true):mw P C N ops n0 σf σ ((i,ri) :: (j,rj) :: L):=by
  cases h with
  | step _ _ oj _ _ hj hrj hpj h =>
    cases h with
    | step _ _ oi _ _ hi hri hpi h =>
      obtain ⟨h1,h2,h3,h4,h5⟩:=Go.Ax.swap hrj hri hind
      exact .step σ i oi ri _ hi h1 (by rw [DB h4]; exact hpi) (.step _ j oj rj _ hj h2 (by rw [DB h5]; exact hpj) (h.eqv h3.symm))
theorem mw.front {i:Nat} {ri:fw} {L2:List (Nat × fw)}:∀ (L1:List (Nat × fw)) {σ:St},mw P C N ops n0 σf σ (L1++(i,ri) :: L2)→(∀ x∈L1,xl x.2 ri = true)→mw P C N ops n0 σf σ ((i,ri) :: (L1++L2))
  | [],σ,h,_=>h
  | (j,rj) :: L1,σ,h,hi=>by
    cases h with
    | step _ _ oj _ _ hj hrj hpj h =>
      have:=mw.front L1 h fun x hx=>hi x (by simp [hx])
      exact mw.swap (.step σ j oj rj _ hj hrj hpj this) (hi (j,rj) (by simp))
end
end Go.Ax
namespace Go.Ax
open Go.RowKit
section
variable {P:Program} {N:Nat} {B:j5} {σ σ':St} {E:br} {a:Act} {w:World} {C:FuncId→Option CC}
inductive Ev (ops:Array Oper):Nat→Nat→Prop
  | edge (i:Nat) (o:Oper) (e:Edge) (hi:ops[i]? = some o) (he:e∈o.after) (hb:Region.binds .any e = true):Ev ops e.on i
  | trans (i j:Nat) (o:Oper) (e:Edge) (hi:ops[i]? = some o) (he:e∈o.after) (hb:Region.binds .any e = true) (h:Ev ops j e.on):Ev ops j i
theorem Q4 {ops:Array Oper} {acc:List Nat} (hacc:∀ i j,(acc.getD i 0).testBit j = true→Ev ops j i) {i:Nat} {o:Oper} (hi:ops[i]? = some o) {j:Nat} (h:(Oz acc o).testBit j = true):Ev ops j i:=by
  unfold Oz at h
  have key:∀ (l:List Edge) (s:Nat),(∀ e∈l,e∈o.after)→(∀ j,s.testBit j = true→Ev ops j i) →
      (l.foldl (fun s e=>bif Region.binds .any e then s ||| (2 ^ e.on ||| acc.getD e.on 0) else s) s).testBit j = true→Ev ops j i:=by
    intro l
    induction l with
    | nil=>intro s _ hs h; exact hs j h
    | cons e l ih =>
      intro s hl hs h
      rw [List.foldl_cons] at h
      refine ih _ (fun x hx=>hl x (by simp [hx])) ?_ h
      cases hb:Region.binds .any e with
      | false=>simpa [hb] using hs
      | true =>
        intro q hq
        simp only [cond_true,Nat.testBit_or,Bool.or_eq_true] at hq
        rcases hq with hq | hq | hq
        · exact hs q hq
        · rw [Nat.testBit_two_pow] at hq
          have:e.on = q:=by simpa using hq
          rw [← this]
          exact .edge i o e hi (hl e (by simp)) hb
        · exact .trans i q o e hi (hl e (by simp)) hb (hacc _ _ hq)
  exact key _ 0 (fun e he=>by simpa using he) (fun j hj=>by simp at hj) h
theorem K5 {ops:Array Oper}:∀ (rest:List Oper) (acc:List Nat),ops.toList.drop acc.length = rest→(∀ i j,(acc.getD i 0).testBit j = true→Ev ops j i)→∀ i j,((D8 rest acc).getD i 0).testBit j = true→Ev ops j i
  | [],acc,_,h=>h
  | o :: r,acc,hd,h=>by
    rw [D8]
    have hi:ops[acc.length]? = some o:=by
      have:=congrArg (·[0]?) hd
      simpa using this
    refine K5 r _ ?_ ?_
    · rw [List.length_append, ← List.drop_drop,hd]; rfl
    · intro i j hij
      rw [List.getD_eq_getElem?_getD,List.getElem?_append] at hij
      split at hij
      · exact h i j (by rw [List.getD_eq_getElem?_getD]; exact hij)
      · next hlt =>
        by_cases he:i = acc.length
        · subst he
          exact Q4 h hi (by simpa using hij)
        · have:i - acc.length≠0:=by omega
          rw [List.getElem?_singleton] at hij
          simp [this] at hij
theorem IA {m:Nat} {r:fw}:∀ (l:List fw) (j:Nat),Js m r j l = true→∀ (k:Nat) (q:fw),l[k]? = some q→m.testBit (j+k) = true∨xl q r = true
  | [],j,_,k,q,h=>by simp at h
  | x :: l,j,hp,k,q,h=>by
    rw [Js] at hp
    simp only [Bool.and_eq_true,Bool.or_eq_true] at hp
    match k with
    | 0=>simp at h; subst h; simpa using hp.1
    | k+1 =>
      have:=IA l (j+1) hp.2 k q (by simpa using h)
      rw [show j+(k+1) = j+1+k by omega]
      exact this
theorem H2 {ms:List Nat}:∀ (rest done:List fw),xT ms done rest = true→∀ (i j:Nat) (q r:fw),j < i→(done++rest)[i]? = some r→(done++rest)[j]? = some q→done.length≤i→(ms.getD i 0).testBit j = true∨xl q r = true
  | [],done,_,i,j,q,r,hji,hi,hj,hlt=>by
    rw [List.append_nil] at hi
    have:=(List.getElem?_eq_some_iff.1 hi).1
    omega
  | x :: l,done,h,i,j,q,r,hji,hi,hj,hlt=>by
    rw [xT] at h
    simp only [Bool.and_eq_true] at h
    rcases Nat.lt_or_ge done.length i with hlt' | hge
    · refine H2 l (done++[x]) h.2 i j q r hji ?_ ?_ ?_
      · rw [List.append_assoc]; exact hi
      · rw [List.append_assoc]; exact hj
      · simp; omega
    · have he:i = done.length:=by omega
      subst he
      rw [List.getElem?_append_right (Nat.le_refl _)] at hi
      simp at hi
      subst hi
      rw [List.getElem?_append_left hji] at hj
      have:=IA done 0 h.1 j q hj
      simpa using this
theorem Fd {ops:Array Oper}:∀ (rest:List Oper) (n:Nat),ops.toList.drop n = rest→qG n rest = true→∀ (i:Nat) (o:Oper) (e:Edge),n≤i→ops[i]? = some o→e∈o.after→Region.binds .any e = true→e.on < i
  | [],n,hd,_,i,o,e,hn,hi,_,_=>by
    have h1:=List.drop_eq_nil_iff.1 hd
    have h2:=(Array.getElem?_eq_some_iff.1 hi).1
    simp at h1
    omega
  | x :: l,n,hd,h,i,o,e,hn,hi,he,hb=>by
    rw [qG] at h
    simp only [Bool.and_eq_true] at h
    rcases Nat.lt_or_ge n i with hlt | hge
    · exact Fd l (n+1) (by rw [← List.drop_drop,hd]; rfl) h.2 i o e hlt hi he hb
    · have:i = n:=by omega
      subst this
      have hx:ops[i]? = some x:=by
        have:=congrArg (·[0]?) hd
        simpa using this
      rw [hx] at hi
      cases hi
      have:=List.all_eq_true.1 h.1 e (by simpa using he)
      simpa [hb] using this
theorem bG.congr {H H':am} (h:bG E w H) (he:∀ o,am.get H' o = am.get H o):bG E w H' :=
  ⟨fun o ob ho=>h.at_ o ob (by rw [← he]; exact ho),h.inj,h.sep,h.lt,h.oklt⟩
theorem dQ.drawn (hs:dQ N B σ E a w) (n:Nat):dQ N B σ E a { w with drawn:=n }:=by
  have hS:gz E w [] E { w with drawn:=n }:=⟨rfl,rfl,rfl,Nat.le_refl _,fun _ h=>h,fun _ _ _=>rfl,fun _ h=>h,fun _ h=>.inl h,fun _ _ _=>⟨rfl,rfl,rfl⟩,fun o b h1 h2=>.inl ⟨o,h1,h2⟩⟩
  have hr:∀ v d,aK E w v d→aK E { w with drawn:=n } v d:=fun v d h=>by simpa [V.killAll] using h.step hS hs.heap.sep hs.heap.oklt
  have hd:∀ v d,cx E.ok w v d→cx E.ok { w with drawn:=n } v d:=fun v d h=>cx.mono (w:=w) (w':={ w with drawn:=n }) (fun _ h=>h) (fun _ _=>rfl) h
  refine ⟨hs.size,hs.small,hs.defers,hs.live,⟨fun o ob ho=>?_,hs.heap.inj,hs.heap.sep,hs.heap.lt,hs.heap.oklt⟩,fun t s hg=>⟨fun h=>hr _ _ ((hs.slots t s hg).1 h),(hs.slots t s hg).2⟩,⟨hs.base.os,hs.base.tape,hs.base.output,hs.base.size,hs.base.block⟩,hs.own,hs.okold⟩
  have:=hs.heap.at_ o ob ho
  exact ⟨this.1,rm this.2 ⟨rfl,rfl,rfl⟩ (fun _ _=>rfl) hr hd⟩
theorem p5.holds (h:p5 σ σ') (ch:cJ):holds σ'.tm ch = holds σ.tm ch:=mT ch fun x _=>by rw [h.tm]
theorem dQ.eqv (hs:dQ N B σ E a w) (h:p5 σ σ') (hn:σ.nx≤σ'.nx):dQ N B σ' E a w:=by
  refine ⟨hs.size,hs.small,hs.defers,fun q hq=>hs.live q (by omega),hs.heap.congr fun o=>(h.hp o).symm,fun t s hg=>?_,hs.base,hs.own,hs.okold⟩
  rw [← h.tm] at hg
  have:=hs.slots t s hg
  refine kH (tm:=σ.tm) ⟨?_, ?_⟩ ?_
  · exact this.1
  · exact this.2
  · intro x _ _; rw [h.tm]
theorem dQ.weaken_nx (hs:dQ N B σ E a w) {M:Nat} (h:σ.nx≤M):dQ N B { σ with nx:=M } E a w :=
  ⟨hs.size,hs.small,hs.defers,fun q hq=>hs.live q (Nat.le_trans h hq),hs.heap,hs.slots,hs.base,hs.own,hs.okold⟩
theorem mw.dom {ops:Array Oper} {n0:Nat} {σf:St} {L:List (Nat × fw)} (h:mw P C N ops n0 σf σ L):∀ x∈L,x.1 < ops.size:=by
  induction h with
  | done=>intro x hx; simp at hx
  | step σ i o r L hi hr hp h ih =>
    intro x hx
    rcases List.mem_cons.1 hx with rfl | hx
    · exact (Array.getElem?_eq_some_iff.1 hi).1
    · exact ih x hx
theorem abM (hC:∀ f con,C f = some con→bR P f con) {ops:Array Oper} {Q:Exit→Act→World→Prop} {σf:St} {M n0:Nat} (hM:n0+ops.size≤M)
    (hedge:∀ (i:Nat) (o:Oper) (e:Edge),ops[i]? = some o→e∈o.after→Region.binds .any e = true→e.on < i)
    (hQ:∀ σ' E' a' w',p5 σ' σf→σ'.nx = M→dQ N B σ' E' a' w'→Q .normal a' w'):∀ (fuel:Nat) (L:List (Nat × fw)) (listed:Array Bool) (σ:St) (E:br) (a:Act) (w:World),
    L.length = fuel→listed.size = ops.size→(∀ i,i < ops.size→(listed.getD i false = false↔i∈L.map (·.1)))→L.Pairwise (fun x y=>x.1 < y.1) →
    L.Pairwise (fun x y=>Ev ops x.1 y.1∨xl x.2 y.2 = true)→(∀ i j,Ev ops j i→listed.getD i false = true→listed.getD j false = true) →
    mw P C N ops n0 σf σ L→σ.nx = M→dQ N B σ E a w→(∀ x∈L, ¬ E.live (n0+x.1))→wpAny P .any ops Q fuel listed a w:=by
  intro fuel
  induction fuel with
  | zero =>
    intro L listed σ E a w hl hsz hmem _ _ _ hr hnx hs _
    have hL:L = []:=List.length_eq_zero_iff.1 hl
    subst hL
    refine ⟨List.eq_nil_iff_forall_not_mem.2 fun i hi=>?_, ?_⟩
    · obtain ⟨h0,o,ho,_⟩:=mem_ready.1 hi
      have hlt:=(Array.getElem?_eq_some_iff.1 ho).1
      have:listed.getD i false = false:=by
        rw [Array.getD_eq_getD_getElem?] at h0 ⊢
        have:i < listed.size:=by omega
        simpa [this] using h0
      simpa using (hmem i hlt).1 this
    · cases hr with
      | done _ h=>exact hQ σ E a w h hnx hs
  | succ fuel ih =>
    intro L listed σ E a w hl hsz hmem hlt hpair hclosed hr hnx hs hlive
    have un:∀ i,i < ops.size→(listed.getD i true = false↔listed.getD i false = false):=by
      intro i hi
      rw [Array.getD_eq_getD_getElem?,Array.getD_eq_getD_getElem?]
      have:i < listed.size:=by omega
      simp [this]
    refine ⟨fun hnil=>?_,fun i hi=>?_⟩
    · exfalso
      match L,hl with
      | x :: L',_ =>
        have hx:x.1 < ops.size:=hr.dom x (by simp)
        have hin:x.1∈Region.ready .any ops listed:=by
          refine mem_ready.2 ⟨(un _ hx).2 ((hmem _ hx).2 (by simp)),ops[x.1],Array.getElem?_eq_getElem hx,fun e he hb=>?_⟩
          have hon:=hedge x.1 _ e (Array.getElem?_eq_getElem hx) he hb
          cases hc:listed.getD e.on false with
          | true=>rfl
          | false =>
            have:=(hmem e.on (by omega)).1 hc
            obtain ⟨y,hy,hye⟩:=List.mem_map.1 this
            rcases List.mem_cons.1 hy with rfl | hy
            · omega
            · have:=(List.pairwise_cons.1 hlt).1 y hy
              omega
        rw [hnil] at hin
        simp at hin
    · obtain ⟨h0,o,ho,hall⟩:=mem_ready.1 hi
      have hisz:=(Array.getElem?_eq_some_iff.1 ho).1
      have hiL:=(hmem i hisz).1 ((un i hisz).1 h0)
      obtain ⟨y,hy,hyi⟩:=List.mem_map.1 hiL
      obtain ⟨i',ri⟩:=y
      simp only at hyi
      subst hyi
      obtain ⟨L1,L2,rfl⟩:=List.append_of_mem hy
      have hanc:∀ j,Ev ops j i'→listed.getD j false = true:=by
        intro j hj
        cases hj with
        | edge _ o' e hi' he hb=>rw [ho] at hi'; cases hi'; exact hall e he hb
        | trans _ _ o' e hi' he hb h=>rw [ho] at hi'; cases hi'; exact hclosed _ _ h (hall e he hb)
      have hind:∀ x∈L1,xl x.2 ri = true:=by
        intro x hx
        rcases (List.pairwise_append.1 hpair).2.2 x hx (i',ri) (by simp) with h | h
        · exfalso
          have h1:=hanc _ h
          have h2:=(hmem x.1 (hr.dom x (by simp [hx]))).2 (List.mem_map.2 ⟨x,by simp [hx],rfl⟩)
          rw [h1] at h2
          cases h2
        · exact h
      have hfr:=mw.front L1 hr hind
      cases hfr with
      | step _ _ o' _ _ hi' hrec hpp hrest =>
        refine Ll (M:=M) hC hs hi' (hlive (i',ri) (by simp)) (by omega) (by omega) hrec hpp fun E' a' w' hs' hl'=>?_
        have heq:{ after σ ri with nx:=M } = after σ ri:=by
          rw [← hnx]; rfl
        rw [heq] at hs'
        have hno:∀ x∈L1++L2,x.1≠i':=by
          intro x hx
          rcases List.mem_append.1 hx with hx | hx
          · have:=(List.pairwise_append.1 hlt).2.2 x hx (i',ri) (by simp)
            simp only at this; omega
          · have:=(List.pairwise_cons.1 (List.pairwise_append.1 hlt).2.1).1 x hx
            simp only at this; omega
        have hsub:(L1++L2).Sublist (L1++(i',ri) :: L2):=List.Sublist.append (List.Sublist.refl _) (List.sublist_cons_self _ _)
        refine ih (L1++L2) _ (after σ ri) E' a' w' ?_ ?_ ?_ (hlt.sublist hsub) (hpair.sublist hsub) ?_ hrest hnx hs' ?_
        · simp only [List.length_append,List.length_cons] at hl ⊢; omega
        · simp [hsz]
        · intro k hk
          by_cases hki:k = i'
          · subst hki
            constructor
            · intro h
              have:k < listed.size:=by omega
              simp [this] at h
            · intro h
              obtain ⟨x,hx,hxe⟩:=List.mem_map.1 h
              exact (hno x hx hxe).elim
          · rw [getD_set_ne false (Ne.symm hki),hmem k hk]
            simp only [List.map_append,List.map_cons,List.mem_append,List.mem_cons]
            constructor
            · rintro (h | h | h)
              · exact .inl h
              · exact (hki h).elim
              · exact .inr h
            · rintro (h | h)
              · exact .inl h
              · exact .inr (.inr h)
        · intro p q hpq hp
          by_cases hpi:p = i'
          · subst hpi
            exact getD_set_true (hanc q hpq)
          · rw [getD_set_ne false (Ne.symm hpi)] at hp
            exact getD_set_true (hclosed p q hpq hp)
        · intro x hx hlx
          rcases hl' _ hlx with h | h
          · exact hlive x (hsub.subset hx) h
          · have:=hno x hx
            omega
theorem OB {ops:Array Oper} {n0:Nat}:∀ (rest:List Oper) (i:Nat) (σ:St) (ps:List Prop) (rcs:List fw) (σ2:St),ops.toList.drop i = rest→RO P C N ops.toList rest (n0+i) σ = some (ps,rcs,σ2)→(∀ p∈ps,p) →
    ∃ σf,mw P C N ops n0 σf σ ((List.range' i rcs.length).zip rcs)∧σ2 = { σf with tm:=CL σf.tm }∧σf.nx = σ.nx∧rcs.length = rest.length
  | [],i,σ,ps,rcs,σ2,hd,h,hp=>by
    simp only [RO,Option.some.injEq,Prod.mk.injEq] at h
    obtain ⟨rfl,rfl,rfl⟩:=h
    exact ⟨σ, .done _ (.refl _),rfl,rfl,rfl⟩
  | o :: r,i,σ,ps,rcs,σ2,hd,h,hp=>by
    rw [RO] at h
    split at h
    · next rc h1 =>
      split at h
      · next qs rcs' σ3 h2 =>
        simp only [Option.some.injEq,Prod.mk.injEq] at h
        obtain ⟨rfl,rfl,rfl⟩:=h
        have hi:ops[i]? = some o:=by
          have:=congrArg (·[0]?) hd
          simpa using this
        obtain ⟨σf,hr,he,hn,hl⟩:=OB r (i+1) (after σ rc) qs rcs' σ3 (by rw [← List.drop_drop,hd]; rfl) h2 fun p hp'=>hp p (List.mem_append_right _ hp')
        refine ⟨σf, ?_,he,hn,by simp [hl]⟩
        rw [List.length_cons,List.range'_succ,List.zip_cons_cons]
        exact .step σ i o rc _ hi h1 (fun p hp'=>hp p (List.mem_append_left _ hp')) hr
      · cases h
    · cases h
theorem LA (hm:P.follows .mixedOrders = true) (hC:∀ f con,C f = some con→bR P f con) {id:Nat} {ops:Array Oper} {Q:Exit→Act→World→Prop} {ps:List Prop} {rcs:List fw}
    (hg:RO P C N ops.toList ops.toList σ.nx { σ with nx:=σ.nx+ops.toList.length } = some (ps,rcs,σ')) (he:qG 0 ops.toList = true) (hd:xT (D8 ops.toList []) [] rcs = true) (hp:∀ p∈ps,p)
    (hs:dQ N B σ E a w) (hQ:∀ E' a' w',dQ N B σ' E' a' w'→Q .normal a' w'):(Code.region id ops true).wp P Q a w:=by
  obtain ⟨σf,hr,e,hn,hl⟩:=OB (n0:=σ.nx) ops.toList 0 _ ps rcs σ' rfl (by simpa using hg) hp
  refine wp_region_any hm ?_
  have hsz:rcs.length = ops.size:=by simpa using hl
  have hs1:dQ N B { σ with nx:=σ.nx+ops.toList.length } E a { w with drawn:=w.drawn+1 }:=by
    have:=hs.weaken_nx (M:=σ.nx+ops.toList.length) (Nat.le_add_right _ _)
    exact this.drawn _
  have hget:∀ (k:Nat) (x:Nat × fw),((List.range' 0 rcs.length).zip rcs)[k]? = some x→x.1 = k∧rcs[k]? = some x.2:=by
    intro k x hx
    rw [List.getElem?_zip_eq_some] at hx
    obtain ⟨h1,h2⟩:=hx
    rw [List.getElem?_range' (by exact (List.getElem?_eq_some_iff.1 h2).1)] at h1
    first
      | (have h3:0+1*k = x.1:=Option.some.inj h1
         exact ⟨by omega,h2⟩)
  refine abM (M:=σ.nx+ops.toList.length) (n0:=σ.nx) (σf:=σf) hC (by simp) (fun i o e hi hem hb=>Fd ops.toList 0 rfl he i o e (Nat.zero_le _) hi hem hb) ?_ ops.size ((List.range' 0 rcs.length).zip rcs) _ _ E a _ ?_ ?_ ?_ ?_ ?_ ?_ hr rfl hs1 ?_
  · intro σ2 E' a' w' hev hnx hs2
    refine hQ E' a' w' ?_
    have h3:dQ N B σf E' a' w':=hs2.eqv hev (by rw [hnx,hn]; exact Nat.le_refl _)
    rw [e]
    exact IP h3
  · simp [hsz]
  · simp
  · intro i hi
    constructor
    · intro _
      have h1:i < rcs.length:=by omega
      refine List.mem_map.2 ⟨(i,rcs[i]), ?_,rfl⟩
      refine List.mem_of_getElem? (i:=i) ?_
      rw [List.getElem?_zip_eq_some]
      simp [h1]
    · intro _
      simp [hi]
  · rw [List.pairwise_iff_getElem]
    intro i j hi hj hij
    have h1:=hget i _ (List.getElem?_eq_getElem hi)
    have h2:=hget j _ (List.getElem?_eq_getElem hj)
    rw [h1.1,h2.1]; exact hij
  · rw [List.pairwise_iff_getElem]
    intro i j hi hj hij
    have h1:=hget i _ (List.getElem?_eq_getElem hi)
    have h2:=hget j _ (List.getElem?_eq_getElem hj)
    rw [h1.1,h2.1]
    rcases H2 rcs [] hd j i _ _ hij h2.2 h1.2 (Nat.zero_le _) with h | h
    · exact .inl (K5 ops.toList [] rfl (fun i j h=>by simp at h) _ _ h)
    · exact .inr h
  · intro i j hanc h
    exfalso
    rw [Array.getD_eq_getD_getElem?,Array.getElem?_replicate] at h
    split at h <;> simp at h
  · intro x hx
    exact hs.live _ (Nat.le_add_right _ _)
end
end Go.Ax
namespace Go.Ax
open Go.RowKit
theorem IW:∀ {ps:List Prop} {Q:Prop},Aw ps Q→(∀ p∈ps,p)∧Q
  | [],_,h=>⟨fun p hp=>by simp at hp,h⟩
  | p :: ps,Q,h=>by
    obtain ⟨h1,h2⟩:=IW h.2
    refine ⟨fun q hq=>?_,h2⟩
    rcases List.mem_cons.1 hq with rfl | hq
    · exact h.1
    · exact h1 q hq
structure dv (σ σ':St):Prop where
  sim:∀ (N:Nat) (B:j5) (E:br) (a:Act) (w:World),dQ N B σ E a w→∃ E',dQ N B σ' E' a w
def aH (K1:St→Prop) (K:Exit→St→Prop):Exit→St→Prop
  | .normal,σ=>K1 σ
  | e,σ=>K e σ
def bj (id:Nat) (K:Exit→St→Prop):Exit→St→Prop
  | .exit id',σ=>bif Nat.beq id' id then K .normal σ else K (.exit id') σ
  | e,σ=>K e σ
structure ahR (body:(Exit→St→Prop)→St→Prop) (K:Exit→St→Prop) (σ:St):Prop where
  ok:∃ I:Nat→St→Prop,(∃ m σ0,dv σ σ0∧I m σ0)∧∀ m σ,I m σ→body (aH (fun σ'=>∃ m' σ'',m' < m∧dv σ' σ''∧I m' σ'') K) σ
def ev (P:Program) (C:FuncId→Option CC) (N:Nat):Code→(Exit→St→Prop)→St→Prop
  | .skip,K,σ=>K .normal σ
  | .label _,K,σ=>K .normal σ
  | .region _ ops dr,K,σ =>
    bif dr then
      match RO P C N ops.toList ops.toList σ.nx { σ with nx:=σ.nx+ops.toList.length } with
      | some (ps,rcs,σ')=>bif qG 0 ops.toList&&xT (D8 ops.toList []) [] rcs then Aw ps (K .normal σ') else False
      | none=>False
    else
      match Hg P C N ops.toList ops.toList σ with
      | some (ps,σ')=>Aw ps (K .normal σ')
      | none=>s7 P C N ops.toList ops.toList σ (K .normal)
  | .seq x y,K,σ=>ev P C N x (aH (ev P C N y K) K) σ
  | .cond c x y,K,σ =>
    match gj σ [] c with
    | some (.c (.lit (.bool b)))=>bif b then ev P C N x K σ else ev P C N y K σ
    | _=>False
  | .block id x,K,σ=>ev P C N x (bj id K) σ
  | .exit id,K,σ=>K (.exit id) σ
  | .ret,K,σ=>K .ret σ
  | .loop x,K,σ=>ahR (ev P C N x) K σ
  | _,_,_=>False
section
variable {P:Program} {N:Nat} {B:j5} {C:FuncId→Option CC}
def KS (N:Nat) (B:j5) (K:Exit→St→Prop) (e:Exit) (a:Act) (w:World):Prop:=∃ σ E,K e σ∧dQ N B σ E a w
theorem RZ (body:(Exit→St→Prop)→St→Prop) (c:Code)
    (hbody:∀ (K:Exit→St→Prop) (σ:St) (E:br) (a:Act) (w:World),body K σ→dQ N B σ E a w→c.wp P (KS N B K) a w)
    (I:Nat→St→Prop) (K:Exit→St→Prop) (hI:∀ m σ,I m σ→body (aH (fun σ'=>∃ m' σ'',m' < m∧dv σ' σ''∧I m' σ'') K) σ) :
    ∀ (m:Nat) (σ:St) (E:br) (a:Act) (w:World),I m σ→dQ N B σ E a w→(Code.loop c).wp P (KS N B K) a w:=by
  intro m σ E a w hm hs b k cs
  have key:∀ m σ E a w,I m σ→dQ N B σ E a w→∃ e a' w',KS N B K e a' w'∧Arrives P (lone (b.at a (.code c :: .inLoop c :: k)) cs w) b k cs e a' w':=by
    intro m
    induction m using Nat.strongRecOn with
    | _ m ih =>
      intro σ E a w hm hs
      obtain ⟨e,a₁,w₁,⟨σ₁,E₁,hk,hs₁⟩,harr⟩:=hbody _ σ E a w (hI m σ hm) hs b (.inLoop c :: k) cs
      cases e with
      | normal =>
        obtain ⟨m',σ2,hlt,hent,hI'⟩:=hk
        obtain ⟨E2,hs2⟩:=hent.sim N B E₁ a₁ w₁ hs₁
        obtain ⟨e₂,a₂,w₂,hq₂,harr₂⟩:=ih m' hlt σ2 E2 a₁ w₁ hI' hs2
        exact ⟨e₂,a₂,w₂,hq₂, .of_steps (Steps.trans harr (.one step_inLoop)) harr₂⟩
      | exit id=>exact ⟨_,a₁,w₁,⟨σ₁,E₁,hk,hs₁⟩, .pass (x:=.inLoop c) rfl (fun _ _=>.inl (by simp)) harr⟩
      | goto l=>exact ⟨_,a₁,w₁,⟨σ₁,E₁,hk,hs₁⟩, .pass (x:=.inLoop c) rfl (fun _ _=>.inl (by simp)) harr⟩
      | ret=>exact ⟨_,a₁,w₁,⟨σ₁,E₁,hk,hs₁⟩, .pass (x:=.inLoop c) rfl (fun _ _=>.inl (by simp)) harr⟩
      | panic ch=>exact ⟨_,a₁,w₁,⟨σ₁,E₁,hk,hs₁⟩, .pass (x:=.inLoop c) rfl (fun _ _=>.inl (by simp)) harr⟩
      | outgrown=>exact ⟨_,a₁,w₁,⟨σ₁,E₁,hk,hs₁⟩, .pass (x:=.inLoop c) rfl (fun _ _=>.inl (by simp)) harr⟩
  obtain ⟨e,a',w',hq,harr⟩:=key m σ E a w hm hs
  exact ⟨e,a',w',hq, .of_steps (.one step_loop) harr⟩
theorem YQ (hm:P.follows .mixedOrders = true) (hC:∀ f con,C f = some con→bR P f con):∀ (c:Code) (K:Exit→St→Prop) (σ:St) (E:br) (a:Act) (w:World),
    ev P C N c K σ→dQ N B σ E a w→c.wp P (KS N B K) a w:=by
  intro c
  induction c with
  | skip=>exact fun K σ E a w h hs=>wp_skip ⟨σ,E,h,hs⟩
  | label l=>exact fun K σ E a w h hs=>wp_label ⟨σ,E,h,hs⟩
  | region id ops dr =>
    intro K σ E a w h hs
    rw [ev] at h
    cases dr with
    | true =>
      rw [cond_true] at h
      split at h
      · next ps rcs σ' hg =>
        cases hc:(qG 0 ops.toList&&xT (D8 ops.toList []) [] rcs) with
        | false=>rw [hc] at h; exact h.elim
        | true =>
          rw [hc,cond_true] at h
          simp only [Bool.and_eq_true] at hc
          obtain ⟨h1,h2⟩:=IW h
          exact LA hm hC hg hc.1 hc.2 h1 hs fun E' a' w' hs'=>⟨σ',E',h2,hs'⟩
      · exact h.elim
    | false =>
      rw [cond_false] at h
      split at h
      · next ps σ' hg =>
        obtain ⟨h1,h2⟩:=IW h
        exact WI hC hg h1 hs fun E' a' w' hs'=>⟨σ',E',h2,hs'⟩
      · exact TK hC h hs fun σ' E' a' w' hk hs'=>⟨σ',E',hk,hs'⟩
  | seq x y ihx ihy =>
    intro K σ E a w h hs
    rw [ev] at h
    refine wp_seq (wp_mono (ihx _ σ E a w h hs) ?_)
    rintro e a' w' ⟨σ',E',hk,hs'⟩
    cases e with
    | normal=>exact ihy K σ' E' a' w' hk hs'
    | exit id=>exact ⟨σ',E',hk,hs'⟩
    | goto l=>exact ⟨σ',E',hk,hs'⟩
    | ret=>exact ⟨σ',E',hk,hs'⟩
    | panic ch=>exact ⟨σ',E',hk,hs'⟩
    | outgrown=>exact ⟨σ',E',hk,hs'⟩
  | cond c x y ihx ihy =>
    intro K σ E a w h hs
    rw [ev] at h
    split at h
    · next b hb =>
      have hv:a.eval c = .bool b:=(iE hs (ch:=[]) rfl hb).lit_inv
      refine wp_cond hv ?_
      cases b with
      | true=>rw [if_pos rfl]; exact ihx K σ E a w h hs
      | false=>rw [if_neg (by simp)]; exact ihy K σ E a w h hs
    · exact h.elim
  | block id x ih =>
    intro K σ E a w h hs
    rw [ev] at h
    refine wp_block (wp_mono (ih _ σ E a w h hs) ?_)
    rintro e a' w' ⟨σ',E',hk,hs'⟩
    cases e with
    | normal=>exact ⟨σ',E',hk,hs'⟩
    | exit id' =>
      unfold Exit.inBlock
      simp only [bj] at hk
      by_cases hid:id' = id
      · subst hid
        rw [show Nat.beq id' id' = true by simp,cond_true] at hk
        show if id' = id' then KS N B K .normal a' w' else KS N B K (.exit id') a' w'
        rw [if_pos rfl]; exact ⟨σ',E',hk,hs'⟩
      · rw [sQ hid,cond_false] at hk
        show if id' = id then KS N B K .normal a' w' else KS N B K (.exit id') a' w'
        rw [if_neg hid]; exact ⟨σ',E',hk,hs'⟩
    | goto l=>exact ⟨σ',E',hk,hs'⟩
    | ret=>exact ⟨σ',E',hk,hs'⟩
    | panic ch=>exact ⟨σ',E',hk,hs'⟩
    | outgrown=>exact ⟨σ',E',hk,hs'⟩
  | exit id=>exact fun K σ E a w h hs=>wp_exit ⟨σ,E,h,hs⟩
  | ret=>exact fun K σ E a w h hs=>wp_ret ⟨σ,E,h,hs⟩
  | loop x ih =>
    intro K σ E a w h hs
    rw [ev] at h
    obtain ⟨I,⟨m,σ0,hent,hI0⟩,hI⟩:=h.ok
    obtain ⟨E0,hs0⟩:=hent.sim N B E a w hs
    exact RZ (ev P C N x) x ih I K hI m σ0 E0 a w hI0 hs0
  | rangeFunc f params assign body=>exact fun K σ E a w h hs=>h.elim
  | scope body=>exact fun K σ E a w h hs=>h.elim
  | goto l=>exact fun K σ E a w h hs=>h.elim
  | refuse why=>exact fun K σ E a w h hs=>h.elim
end
section
variable {σ σ' σ'':St}
theorem dv.refl (σ:St):dv σ σ:=⟨fun _ _ E _ _ h=>⟨E,h⟩⟩
theorem dv.trans (h:dv σ σ') (h':dv σ' σ''):dv σ σ'':=⟨fun N B E a w hs=>by
  obtain ⟨E',hs'⟩:=h.sim N B E a w hs
  exact h'.sim N B E' a w hs'⟩
theorem dv.of_eq (h:σ = σ'):dv σ σ':=h ▸ .refl σ
end
def an (f:Func):Code:=match f.body with | some c=>c | none=>.skip
def hd:Code→Code
  | .seq x _=>x
  | c=>c
def tl:Code→Code
  | .seq _ y=>y
  | _=>.skip
def ah:Code→Code
  | .block _ x=>x
  | .loop x=>x
  | c=>c
def els:Code→Code
  | .cond _ _ y=>y
  | c=>c
def Wx:Nat→Code→Code
  | 0,c=>c
  | n+1,c=>Wx n (tl c)
abbrev ai (n:Int):Int:=IntKind.i64.wrap n
abbrev di (n:Int):D:=.lit (.int .i64 n)
abbrev db (b:Bool):D:=.lit (.bool b)
abbrev ds (s:ByteArray):D:=.lit (.string s)
abbrev sv (t:Nat) (v:V):Nat × bz:=(t,⟨[],v⟩)
theorem Cn {P:Program} {C:FuncId→Option CC} {N:Nat}:∀ (c:Code) {K K':Exit→St→Prop} {σ:St},(∀ e σ,K e σ→K' e σ)→ev P C N c K σ→ev P C N c K' σ:=by
  intro c
  induction c with
  | skip=>exact fun h=>h _ _
  | label l=>exact fun h=>h _ _
  | region id ops dr =>
    intro K K' σ h hh
    rw [ev] at hh ⊢
    cases dr with
    | true =>
      rw [cond_true] at hh ⊢
      split at hh
      · next ps rcs σ' hg =>
        cases hc:(qG 0 ops.toList&&xT (D8 ops.toList []) [] rcs) with
        | false=>rw [hc] at hh; exact hh.elim
        | true =>
          rw [hc,cond_true] at hh
          rw [cond_true]
          exact allP_mono (h _ _) hh
      · exact hh.elim
    | false =>
      rw [cond_false] at hh ⊢
      split at hh
      · exact allP_mono (h _ _) hh
      · exact P3 (fun σ hk=>h _ _ hk) _ _ hh
  | seq x y ihx ihy =>
    intro K K' σ h hh
    rw [ev] at hh ⊢
    refine ihx ?_ hh
    intro e σ hk
    cases e with
    | normal=>exact ihy h hk
    | exit id=>exact h _ _ hk
    | goto l=>exact h _ _ hk
    | ret=>exact h _ _ hk
    | panic ch=>exact h _ _ hk
    | outgrown=>exact h _ _ hk
  | cond c x y ihx ihy =>
    intro K K' σ h hh
    rw [ev] at hh ⊢
    split at hh
    · next b hb =>
      cases b with
      | true=>exact ihx h hh
      | false=>exact ihy h hh
    · exact hh.elim
  | block id x ih =>
    intro K K' σ h hh
    rw [ev] at hh ⊢
    refine ih ?_ hh
    intro e σ hk
    cases e with
    | normal=>exact h _ _ hk
    | exit id' =>
      simp only [bj] at hk ⊢
      cases hb:Nat.beq id' id with
      | true=>rw [hb] at hk; exact h _ _ hk
      | false=>rw [hb] at hk; exact h _ _ hk
    | goto l=>exact h _ _ hk
    | ret=>exact h _ _ hk
    | panic ch=>exact h _ _ hk
    | outgrown=>exact h _ _ hk
  | exit id=>exact fun h=>h _ _
  | ret=>exact fun h=>h _ _
  | loop x ih =>
    intro K K' σ h hh
    rw [ev] at hh ⊢
    obtain ⟨I,h0,h1⟩:=hh.ok
    refine ⟨I,h0,fun m σ hm=>ih ?_ (h1 m σ hm)⟩
    intro e σ hk
    cases e with
    | normal=>exact hk
    | exit id=>exact h _ _ hk
    | goto l=>exact h _ _ hk
    | ret=>exact h _ _ hk
    | panic ch=>exact h _ _ hk
    | outgrown=>exact h _ _ hk
  | rangeFunc f params assign body=>exact fun h hh=>hh.elim
  | scope body=>exact fun h hh=>hh.elim
  | goto l=>exact fun h hh=>hh.elim
  | refuse why=>exact fun h hh=>hh.elim
where
  allP_mono:∀ {ps:List Prop} {Q Q':Prop},(Q→Q')→Aw ps Q→Aw ps Q'
    | [],_,_,h,hh=>h hh
    | _ :: ps,_,_,h,hh=>⟨hh.1,allP_mono h hh.2⟩
end Go.Ax
namespace Go.Ax
open Go.RowKit
def D.isOne:D→Bool
  | .nil=>true
  | .lit (.agg _)=>false
  | .lit (.tuple _)=>false
  | .lit _=>true
  | .sl ..=>true
  | .any=>true
  | _=>false
theorem cx.one {ok:Nat→Prop} {w:World} {v:Value} {d:D} (h:cx ok w v d) (h1:d.isOne = true):v.oneCell' = true:=by
  cases h with
  | unk v=>simp [D.isOne] at h1
  | nil=>rfl
  | lit v=>cases v <;> first | rfl | simp [D.isOne] at h1
  | opt b us=>simp [D.isOne] at h1
  | any v h2=>exact h2
  | sl=>rfl
inductive eN:D→D→Prop
  | unk (d:D):eN d .unk
  | any (d:D) (h:d.isOne = true):eN d .any
  | refl (d:D):eN d d
  | nilsl (k:Nat) (el:Nat→List D):eN .nil (.sl k 0 el)
  | sl (k k' n:Nat) (el el':Nat→List D) (hk:0 < n→k = k') (hl:∀ i,i < n→(el i).length = (el' i).length)
      (h:∀ (i j:Nat) (d d':D),i < n→(el i)[j]? = some d→(el' i)[j]? = some d'→eN d d'):eN (.sl k n el) (.sl k' n el')
def be (ds ds':List D):Prop:=ds.length = ds'.length∧∀ (j:Nat) (d d':D),ds[j]? = some d→ds'[j]? = some d'→eN d d'
theorem be.refl (ds:List D):be ds ds:=⟨rfl,fun j d d' h h'=>by rw [h] at h'; cases h'; exact .refl _⟩
theorem be.of_eq {ds ds':List D} (h:ds = ds'):be ds ds':=h ▸ .refl ds
theorem be.nil:be [] []:=.refl _
theorem be.cons {d d':D} {ds ds':List D} (h:eN d d') (hs:be ds ds'):be (d :: ds) (d' :: ds') :=
  ⟨by simp [hs.1],fun j a b ha hb=>by
    cases j with
    | zero=>simp at ha hb; subst ha hb; exact h
    | succ j=>exact hs.2 j a b (by simpa using ha) (by simpa using hb)⟩
theorem eN.row {k k' n n':Nat} {el el':Nat→List D} (hn:n = n') (hk:0 < n→k = k') (h:∀ i,i < n→be (el i) (el' i)):eN (.sl k n el) (.sl k' n' el'):=by
  subst hn
  exact .sl k k' n el el' hk (fun i hi=>(h i hi).1) fun i j d d' hi=>(h i hi).2 j d d'
mutual
def VLe:V→V→Prop
  | .c d, .c d'=>eN d d'
  | .agg xs, .agg ys=>VLes xs ys
  | .tup xs, .tup ys=>VLes xs ys
  | .dptr k cs j, .dptr k' cs' j'=>k = k'∧j = j'∧be cs cs'
  | _, .c .unk=>True
  | x,y=>x = y
def VLes:List V→List V→Prop
  | [],[]=>True
  | x :: xs,y :: ys=>VLe x y∧VLes xs ys
  | _,_=>False
end
section
variable {P:Program} {N:Nat} {B:j5} {σ:St} {E:br} {a:Act} {w:World} {C:FuncId→Option CC}
theorem cx.le {ok:Nat→Prop} {v:Value} {d d':D} (h:cx ok w v d) (hd:eN d d'):cx ok w v d':=by
  induction hd generalizing v with
  | unk=>exact .unk _
  | any d h1=>exact .any _ (h.one h1)
  | refl=>exact h
  | nilsl k el =>
    cases h
    exact .sl none 0 0 k _ (fun _ _=>undef) (Nat.le_refl _) (by simp [maxLen]) (fun h=>by omega) (fun i j h=>by omega) (fun i h=>by omega) (fun i j d h=>by omega)
  | sl k k' n el el' hk hl hc ih =>
    cases h with
    | sl a _ c _ _ u hc' hm ha ho hl' hu =>
      by_cases hn:0 < n
      · have:=hk hn
        subst this
        exact .sl a n c k el' u hc' hm ha ho (fun i hi=>(hl i hi).symm.trans (hl' i hi)) fun i j d' hi hd'=>by
          have hj:j < (el i).length:=by rw [hl i hi]; exact (List.getElem?_eq_some_iff.1 hd').1
          exact ih i j _ d' hi (List.getElem?_eq_getElem hj) hd' (hu i j _ hi (List.getElem?_eq_getElem hj))
      · have:n = 0:=by omega
        subst this
        exact .sl a 0 c k' el' u hc' hm (fun h=>by omega) (fun i j h=>by omega) (fun i h=>by omega) (fun i j d h=>by omega)
theorem Dj:∀ {xs ys:List V},VLes xs ys→xs.length = ys.length∧∀ (i:Nat) (x y:V),xs[i]? = some x→ys[i]? = some y→VLe x y
  | [],[],_=>⟨rfl,fun i x y h=>by simp at h⟩
  | x :: xs,y :: ys,h=>by
    rw [VLes] at h
    obtain ⟨h1,h2⟩:=Dj h.2
    refine ⟨by simp [h1],fun i p q hp hq=>?_⟩
    match i with
    | 0=>simp at hp hq; subst hp; subst hq; exact h.1
    | i+1=>exact h2 i p q (by simpa using hp) (by simpa using hq)
  | [],_ :: _,h=>by simp [VLes] at h
  | _ :: _,[],h=>by simp [VLes] at h
theorem aK.le {v:Value} {d d':V} (h:aK E w v d):VLe d d'→aK E w v d':=by
  induction h generalizing d' with
  | c v d h =>
    intro hd
    cases d' with
    | c d'=>exact .c _ _ (h.le (by simpa [VLe] using hd))
    | _=>simp [VLe] at hd
  | agg vs ds hl h ih =>
    intro hd
    cases d' with
    | agg ys =>
      rw [VLe] at hd
      obtain ⟨h1,h2⟩:=Dj hd
      refine .agg _ _ (hl.trans h1) fun i v d hv hd'=>?_
      have hlt:i < ds.length:=by rw [h1]; exact (List.getElem?_eq_some_iff.1 hd').1
      exact ih i v _ hv (List.getElem?_eq_getElem hlt) (h2 i _ _ (List.getElem?_eq_getElem hlt) hd')
    | c d=>cases d <;> simp [VLe] at hd; exact .unk _
    | _=>simp [VLe] at hd
  | tup vs ds hl h ih =>
    intro hd
    cases d' with
    | tup ys =>
      rw [VLe] at hd
      obtain ⟨h1,h2⟩:=Dj hd
      refine .tup _ _ (hl.trans h1) fun i v d hv hd'=>?_
      have hlt:i < ds.length:=by rw [h1]; exact (List.getElem?_eq_some_iff.1 hd').1
      exact ih i v _ hv (List.getElem?_eq_getElem hlt) (h2 i _ _ (List.getElem?_eq_getElem hlt) hd')
    | c d=>cases d <;> simp [VLe] at hd; exact .unk _
    | _=>simp [VLe] at hd
  | ptr o k i j b h1 h2 h3 =>
    intro hd
    cases d' with
    | c d=>cases d <;> simp [VLe] at hd; exact .unk _
    | ptr=>simp only [VLe] at hd; rw [← hd]; exact .ptr o k i j b h1 h2 h3
    | _=>simp [VLe] at hd
  | row o k off n a c hn hc hm hl ha h0 =>
    intro hd
    cases d' with
    | c d=>cases d <;> simp [VLe] at hd; exact .unk _
    | row=>simp only [VLe] at hd; rw [← hd]; exact .row o k off n a c hn hc hm hl ha h0
    | _=>simp [VLe] at hd
  | dptr k cs j ad u h1 h2 h3 h4 =>
    intro hd
    cases d' with
    | c d=>cases d <;> simp [VLe] at hd; exact .unk _
    | dptr k' cs' j' =>
      simp only [VLe] at hd
      obtain ⟨rfl,rfl,hd⟩:=hd
      exact .dptr k cs' j ad u h1 h2 (hd.1.symm.trans h3) fun i d' hd'=>by
        have hi:i < cs.length:=by rw [hd.1]; exact (List.getElem?_eq_some_iff.1 hd').1
        exact (h4 i _ (List.getElem?_eq_getElem hi)).le (hd.2 i _ d' (List.getElem?_eq_getElem hi) hd')
    | _=>simp [VLe] at hd
  | fn f vs ds hl h ih =>
    intro hd
    cases d' with
    | c d=>cases d <;> simp [VLe] at hd; exact .unk _
    | fn=>simp only [VLe] at hd; rw [← hd]; exact .fn f vs ds hl h
    | _=>simp [VLe] at hd
theorem cq.le {vs:List Value} {ds ds':List V} (h:cq E w vs ds) (hd:VLes ds ds'):cq E w vs ds':=by
  obtain ⟨h1,h2⟩:=Dj hd
  refine ⟨h.1.trans h1,fun i v d hv hd'=>?_⟩
  have hlt:i < ds.length:=by rw [h1]; exact (List.getElem?_eq_some_iff.1 hd').1
  exact (h.2 i v _ hv (List.getElem?_eq_getElem hlt)).le (h2 i _ _ (List.getElem?_eq_getElem hlt) hd')
end
def gk:List V→Nat→List (Nat × bz)
  | [],_=>[]
  | v :: r,i=>(i,⟨[],v⟩) :: gk r (i+1)
def Qf (P:Program) (σ:St):ResultVar→Option V
  | .tmp t=>gj σ [] (.tmp t)
  | .cell s T=>match gj σ [] (.tmp s) with | some x=>(match rZ P σ.hp T x with | some r=>some r.val | none=>none) | none=>none
def kY (P:Program) (σ:St) (rs:List ResultVar):Option V :=
  match rs.mapM (Qf P σ) with
  | some [v]=>some v
  | some vs=>some (.tup vs)
  | none=>none
def eC (P:Program) (rs:List ResultVar) (Q:am→V→Prop):Exit→St→Prop
  | .ret,σ=>(match kY P σ rs with | some v=>Q σ.hp v | none=>False)
  | .normal,σ=>(match kY P σ rs with | some v=>Q σ.hp v | none=>False)
  | _,_=>False
def aou (P:Program) (C:FuncId→Option CC) (fn:Func) (args:List V) (Q:am→V→Prop):Prop :=
  match fn.body with
  | some c=>bif Nat.ble args.length fn.ntmps&&Nat.ble fn.ntmps 1000000 then ev P C fn.ntmps c (eC P fn.results.toList Q) { tm:=gk args 0,hp:=[],nx:=0 } else False
  | none=>False
def D.scal:D→Bool
  | .sl ..=>false
  | _=>true
mutual
def NewV (H:am):V→Prop
  | .c d=>d.scal = true
  | .agg vs=>NewVs H vs
  | .tup vs=>NewVs H vs
  | .row o k off n=>∃ t m el,am.get H o = some (.row t k m el)∧∀ i,i < n→∀ d∈el (off+i),d.scal = true
  | _=>False
def NewVs (H:am):List V→Prop
  | []=>True
  | v :: r=>NewV H v∧NewVs H r
end
def dN:bK→am→V→Prop
  | .data d,H,v=>VLe (v.view H) d
  | .new d,H,v=>VLe (v.view H) d∧NewV H v
  | .own fr t k n el,H,v=>∃ o m el',v = .row o k 0 n∧am.get H o = some (.row t k m el')∧n = m∧(∀ i,i < n→el' i = el i)∧(fr = true→∀ i,i < n→∀ d∈el i,d.scal = true)
section
variable {P:Program} {N:Nat} {B:j5} {σ:St} {E:br} {a:Act} {w:World} {C:FuncId→Option CC}
theorem D9:∀ (vs:List V) (i t:Nat) (s:bz),bv (gk vs i) t = some s→∃ v,i≤t∧vs[t - i]? = some v∧s = ⟨[],v⟩
  | [],i,t,s,h=>by simp [gk,bv] at h
  | v :: r,i,t,s,h=>by
    rw [gk,dw] at h
    split at h
    · next e=>subst e; cases h; exact ⟨v,Nat.le_refl _,by simp,rfl⟩
    · next e =>
      obtain ⟨u,h1,h2,h3⟩:=D9 r (i+1) t s h
      refine ⟨u,by omega, ?_,h3⟩
      rw [show t - i = (t - (i+1))+1 by omega]
      simpa using h2
theorem Yt {ok:Nat→Prop} {xs:List Value} {vs:List V} (hx:cq (m6 ok) w xs vs) (hok:∀ b,ok b→b < w.heap.size) (hN:vs.length≤N) (hsm:N≤1000000) :
    dQ N ⟨w,ok,fun _=>False,fun _=>undef⟩ { tm:=gk vs 0,hp:=[],nx:=0 } (m6 ok) { tmps:=xs.toArray++Array.replicate (N - xs.toArray.size) undef,defers:=[] } w:=by
  have hl:=hx.1
  refine ⟨?_,hsm,rfl,fun q _ h=>h,⟨fun o ob h=>?_,fun o o' b h=>h.elim,fun o b h=>h.elim,fun o b h=>h.elim,hok⟩,fun t s hg=>?_, .refl _ _ _,fun o b h=>h.elim,fun b h=>.inl h⟩
  · simp; omega
  · simp [am.get] at h
  · obtain ⟨v,_,h2,rfl⟩:=D9 vs 0 t s hg
    rw [Nat.sub_zero] at h2
    have hlt:t < xs.length:=by rw [hl]; exact (List.getElem?_eq_some_iff.1 h2).1
    have hget:(xs.toArray++Array.replicate (N - xs.toArray.size) undef).getD t undef = xs[t]:=by
      rw [Array.getD_eq_getD_getElem?,Array.getElem?_append_left (by simpa using hlt)]
      simp [hlt]
    refine ⟨fun _=>?_,fun _ h=>by simp [holds] at h⟩
    rw [Ad (by omega)]
    simp only
    rw [hget]
    exact hx.2 t _ v (List.getElem?_eq_getElem hlt) h2
theorem UR {H:am} (hH:bG E w H) {t:TypeId} {x:Value} {vx:V} {r:cM} (hx:aK E w x vx) (h:rZ P H t vx = some r) :
    ∃ ad v,x = .pointer (some ad)∧(loadVar t ad).run P w = .ok v w∧aK E w v r.val:=by
  obtain ⟨ad,had⟩:∃ ad,x = .pointer (some ad):=by
    unfold rZ at h
    split at h
    · cases hx with | ptr o k i j b h1 h2 h3=>exact ⟨_,rfl⟩
    · cases hx with | dptr k cs j ad u h1 h2 h3 h4=>exact ⟨_,rfl⟩
    · cases h
  obtain ⟨_,_,v,hrun,hrep⟩:=DC (ρ:=fun _=>x) (o:={ (default:Oper) with op:=.load t (.const x) }) hH rfl hx h
  refine ⟨ad,v,had, ?_,hrep⟩
  subst had
  simp only [execOp,Instr.loadAt,Instr.sureAddr] at hrun
  simp at hrun
  cases hl:(loadVar t ad).run P w with
  | ok u w'=>rw [hl] at hrun; simp at hrun; rw [hrun.1,hrun.2]
  | halt y w'=>rw [hl] at hrun; simp at hrun
theorem PI {g:ResultVar→Sem Value} (hg:∀ r d,Qf P σ r = some d→∃ u,(g r).run P w = .ok u w∧aK E w u d):∀ (rs:List ResultVar) (ds:List V),rs.mapM (Qf P σ) = some ds→∃ us,(rs.mapM g).run P w = .ok us w∧cq E w us ds:=by
  intro rs
  induction rs with
  | nil=>intro ds h; simp at h; subst h; exact ⟨[],by simp, .nil⟩
  | cons r rs ih =>
    intro ds h
    rw [List.mapM_cons] at h
    simp only [Option.bind_eq_bind,Option.pure_def,Option.bind_eq_some_iff,Option.some.injEq] at h
    obtain ⟨d,hd,ds',hds,rfl⟩:=h
    obtain ⟨u,h1,h2⟩:=hg r d hd
    obtain ⟨us,h3,h4⟩:=ih ds' hds
    refine ⟨u :: us, ?_,by simp [h4.1],fun i v d' hv hd'=>?_⟩
    · rw [List.mapM_cons]
      simp only [Sem.run_bind,Sem.run_pure]
      rw [h1]
      simp only [Result.andThen_ok]
      rw [h3]
      simp
    · match i with
      | 0=>simp at hv hd'; subst hv; subst hd'; exact h2
      | i+1=>exact h4.2 i v d' (by simpa using hv) (by simpa using hd')
theorem Qy {fn:Func} {g:ResultVar→Sem Value} (hg:∀ r d,Qf P σ r = some d→∃ u,(g r).run P w = .ok u w∧aK E w u d) {v:V} (h:kY P σ fn.results.toList = some v) :
    ∃ u,(fn.results.mapM g >>= fun vs=>pure (if h:vs.size = 1 then vs[0] else Value.tuple vs):Sem Value).run P w = .ok u w∧aK E w u v:=by
  unfold kY at h
  rw [Array.mapM_eq_mapM_toList]
  split at h
  · next d hd =>
    cases h
    obtain ⟨us,h1,h2⟩:=PI hg _ _ hd
    obtain ⟨u,rfl⟩:∃ u,us = [u]:=by
      have:=h2.1
      match us,this with
      | [u],_=>exact ⟨u,rfl⟩
    refine ⟨u, ?_,h2.2 0 u _ rfl rfl⟩
    simp only [Sem.run_bind,Sem.run_map]
    rw [h1]
    simp
  · next ds hne hd =>
    cases h
    obtain ⟨us,h1,h2⟩:=PI hg _ _ hd
    refine ⟨.tuple us.toArray, ?_, .tup _ _ h2.1 h2.2⟩
    have hne1:us.length≠1:=by
      rw [h2.1]
      intro h
      match ds,h with
      | [d],_=>exact hne d rfl
    simp only [Sem.run_bind,Sem.run_map]
    rw [h1]
    simp [hne1]
  · cases h
theorem H7 {fn:Func} (hs:dQ N B σ E a w) {v:V} (h:kY P σ fn.results.toList = some v):∃ u,(results fn a.tmps).run P w = .ok u w∧aK E w u v:=by
  refine Qy (fn:=fn) (fun r d h=>?_) h
  cases r with
  | tmp t =>
    exact ⟨_,rfl,iE hs (ch:=[]) (x:=.tmp t) rfl h⟩
  | cell s T =>
    simp only [Qf] at h
    split at h
    · next x hx =>
      split at h
      · next r hr =>
        cases h
        have hrx:aK E w (a.tmps.getD s undef) x:=iE hs (ch:=[]) rfl hx
        obtain ⟨ad,v,e,h1,h2⟩:=UR hs.heap hrx hr
        refine ⟨v, ?_,h2⟩
        simp [e,asAddr,h1]
      · cases h
    · cases h
theorem vO {ok ok':Nat→Prop} {v:Value} {d:D} (h:cx ok w v d) (hs:d.scal = true):cx ok' w v d:=by
  cases d with
  | unk=>exact .unk _
  | nil=>cases h; exact .nil
  | lit u=>cases h; exact .lit _
  | opt b us=>cases h; exact .opt _ _
  | any=>cases h with | any _ h1=>exact .any _ h1
  | sl=>simp [D.scal] at hs
theorem FM:∀ {H:am} {vs:List V},NewVs H vs→∀ (i:Nat) (v:V),vs[i]? = some v→NewV H v
  | _,[],_,i,v,h=>by simp at h
  | H,x :: xs,hn,i,v,h=>by
    rw [NewVs] at hn
    match i with
    | 0=>simp at h; subst h; exact hn.1
    | i+1=>exact FM hn.2 i v (by simpa using h)
theorem Xq {H:am} {ok':Nat→Prop} (hH:bG E w H) (hown:∀ q b,E.live q→E.conc q = some b→ok' b) {v:Value} {d:V} (h:aK E w v d):NewV H d→aK (m6 ok') w v (d.view H):=by
  induction h with
  | c v d h =>
    intro hn
    have h':cx ok' w v d:=vO h (by simpa [NewV] using hn)
    cases d with
    | nil =>
      cases h
      exact .c _ _ (.sl none 0 0 0 _ (fun _ _=>undef) (Nat.le_refl _) (by simp [maxLen]) (fun h=>by omega) (fun i j h=>by omega) (fun i h=>by omega) (fun i j d h=>by omega))
    | unk=>exact .c _ _ h'
    | lit u=>exact .c _ _ h'
    | opt b us=>exact .c _ _ h'
    | any=>exact .c _ _ h'
    | sl k n el=>exact .c _ _ h'
  | agg vs ds hl h ih =>
    intro hn
    rw [NewV] at hn
    rw [V.view]
    refine .agg _ _ (by rw [jI,hl]) fun i v d hv hd'=>?_
    rw [ol] at hd'
    cases hx:ds[i]? with
    | none=>rw [hx] at hd'; cases hd'
    | some x=>rw [hx] at hd'; cases hd'; exact ih i v x hv hx (FM hn i x hx)
  | tup vs ds hl h ih =>
    intro hn
    rw [NewV] at hn
    rw [V.view]
    refine .tup _ _ (by rw [jI,hl]) fun i v d hv hd'=>?_
    rw [ol] at hd'
    cases hx:ds[i]? with
    | none=>rw [hx] at hd'; cases hd'
    | some x=>rw [hx] at hd'; cases hd'; exact ih i v x hv hx (FM hn i x hx)
  | ptr o' k i j b hn hb hi=>intro h; exact h.elim
  | row o' k off n a c hn hc hm hl ha h0 =>
    intro hnew
    rw [NewV] at hnew
    obtain ⟨t,m,el,hg,hs⟩:=hnew
    rw [V.view]
    unfold Gv
    rw [hg]
    simp only [show Nat.beq k k = true by simp,cond_true]
    have hr:=aK.row o' k off n a c hn hc hm hl ha h0 (w:=w)
    have has:jX H (.row o' k off n) = some (k,n,fun i=>el (off+i)):=by simp [jX,hg]
    obtain ⟨news,hsrc⟩:=Gl hH hr has
    have hE:∃ E2:br,Zi E2 w (.slice a n c) k n (fun i=>el (off+i)) news∧(∀ b,E2.ok b→ok' b)∧(∀ q b,E2.live q→E2.conc q = some b→ok' b):=by
      refine ⟨{ E with ok:=ok' }, ?_,fun _ h=>h,hown⟩
      exact { hsrc with
        blk:=fun ad n' c' he hn'=>by
          rcases hsrc.blk ad n' c' he hn' with h | h
          · cases he
            obtain ⟨b,hb,hab⟩:=ha hn'
            cases hab
            exact .inl (hown o' b hn hb)
          · exact .inr h
        rep:=fun i j d u hi hd hu=>vO (hsrc.rep i j d u hi hd hu) (hs i hi d (List.mem_of_getElem? hd)) }
    obtain ⟨E2,hsrc2,hok2,hown2⟩:=hE
    exact .c _ _ (LW hok2 hown2 hsrc2)
  | dptr k cs j ad u hok' hcell hl hu=>intro h; exact h.elim
  | fn f vs ds hl h ih=>intro h; exact h.elim
theorem YB {ok:Nat→Prop} {W:World} (hs:dQ N ⟨W,ok,fun _=>False,fun _=>undef⟩ σ E a w) {u:Value} {v:V} (hr:aK E w u v) {out:bK} (ho:dN out σ.hp v):N9 ok W w u out:=by
  have hsown:∀ o b,E.live o→E.conc o = some b→W.heap.size≤b:=fun o b h1 h2=>(hs.own o b h1 h2).resolve_right (fun h=>h)
  have hE:∀ b,E.ok b→ok b∨(W.heap.size≤b∧b < w.heap.size):=by
    intro b hb
    rcases hs.okold b hb with h | h | h
    · exact .inl h
    · exact .inr ⟨h,hs.heap.oklt b hb⟩
    · exact h.elim
  cases out with
  | data d =>
    simp only [dN] at ho
    exact (yy hs.heap (ok':=fun b=>ok b∨(W.heap.size≤b∧b < w.heap.size)) hE hr (.inl fun q b hq hb=>.inr ⟨hsown q b hq hb,hs.heap.lt q b hq hb⟩)).le ho
  | new d =>
    simp only [dN] at ho
    exact (Xq hs.heap (ok':=fun b=>W.heap.size≤b∧b < w.heap.size) (fun q b hq hb=>⟨hsown q b hq hb,hs.heap.lt q b hq hb⟩) hr ho.2).le ho.1
  | own fr t k n el =>
    simp only [dN] at ho
    obtain ⟨o,m,el',rfl,hg,rfl,hel,hfr⟩:=ho
    obtain ⟨xs,h1,h2,h3,h4,h5⟩:=RI hs.heap hg hr
    have hlive:=(hs.heap.at_ _ _ hg).1
    refine ⟨xs, ?_,fun i hi=>by rw [← hel i hi]; exact h3 i hi,h4,fun i j d x hi hd hx=>?_⟩
    · rcases h1 with ⟨g1,g2⟩
      refine ⟨g1, ?_⟩
      rcases g2 with g2 | ⟨g,cap,cur,e1,e2,e3⟩
      · exact .inl g2
      · refine .inr ⟨g,cap,cur,e1, ?_,e3⟩
        have:E.conc o = some g:=by rw [← h2,e1]; rfl
        exact hsown o g hlive this
    · rw [← hel i hi] at hd
      have hrep:=h5 i j d x hi hd hx
      cases fr with
      | true=>exact vO hrep (hfr rfl i hi d (by rw [← hel i hi]; exact List.mem_of_getElem? hd))
      | false =>
        refine cx.mono (ok:=E.ok) (w:=w) (w':=w) (fun b hb=>?_) (fun _ _=>rfl) hrep
        rcases hE b hb with h | ⟨h,h'⟩
        · exact .inl ⟨rfl,h⟩
        · refine .inr ⟨h,h',fun e=>?_⟩
          exact hs.heap.sep o b hlive (h2 ▸ e) hb
theorem vz {f:FuncId} {fn:Func} {c:Code} (hf:P.funcs[f]? = some fn) (hb:fn.body = some c) (hn:(fn.name == "runtime.NumGoroutine") = false) (args:Array Value) (w:World):(callFunc f args).run P w = .ok (.enter f args) w:=by
  have h1:fn.name ≠ "runtime.NumGoroutine" := by simpa using hn
  simp [callFunc,hf,h1,hb,Sem.run]
end
end Go.Ax
namespace Go.Ax
open Go.RowKit
structure aC (P:Program) (N:Nat) (c:Code) (K:Exit→St→Prop) (σ:St):Prop where
  ok:∀ (B:j5) (E:br) (a:Act) (w:World),dQ N B σ E a w→c.wp P (KS N B K) a w
section
variable {P:Program} {C:FuncId→Option CC} {N:Nat} {c x y:Code} {K K':Exit→St→Prop} {σ σ':St}
theorem aC.of_ev (hm:P.follows .mixedOrders = true) (hC:∀ f con,C f = some con→bR P f con) (h:ev P C N c K σ):aC P N c K σ :=
  ⟨fun _ E a w hs=>YQ hm hC c K σ E a w h hs⟩
theorem aC.mono (h:aC P N c K σ) (hk:∀ e σ,K e σ→K' e σ):aC P N c K' σ :=
  ⟨fun B E a w hs=>wp_mono (h.ok B E a w hs) fun _ _ _ ⟨σ',E',h1,h2⟩=>⟨σ',E',hk _ _ h1,h2⟩⟩
theorem aC.ent (he:dv σ σ') (h:aC P N c K σ'):aC P N c K σ :=
  ⟨fun B E a w hs=>by
    obtain ⟨E',hs'⟩:=he.sim N B E a w hs
    exact h.ok B E' a w hs'⟩
theorem aC.seq (h:aC P N x (aH (aC P N y K) K) σ):aC P N (.seq x y) K σ :=
  ⟨fun B E a w hs=>by
    refine wp_seq (wp_mono (h.ok B E a w hs) ?_)
    rintro e a' w' ⟨σ',E',hk,hs'⟩
    cases e with
    | normal=>exact hk.ok B E' a' w' hs'
    | exit id=>exact ⟨σ',E',hk,hs'⟩
    | goto l=>exact ⟨σ',E',hk,hs'⟩
    | ret=>exact ⟨σ',E',hk,hs'⟩
    | panic ch=>exact ⟨σ',E',hk,hs'⟩
    | outgrown=>exact ⟨σ',E',hk,hs'⟩⟩
theorem aC.block {id:Nat} (h:aC P N x (bj id K) σ):aC P N (.block id x) K σ :=
  ⟨fun B E a w hs=>by
    refine wp_block (wp_mono (h.ok B E a w hs) ?_)
    rintro e a' w' ⟨σ',E',hk,hs'⟩
    cases e with
    | normal=>exact ⟨σ',E',hk,hs'⟩
    | exit id' =>
      show if id' = id then KS N B K .normal a' w' else KS N B K (.exit id') a' w'
      simp only [bj] at hk
      by_cases hid:id' = id
      · subst hid
        rw [show Nat.beq id' id' = true by simp,cond_true] at hk
        rw [if_pos rfl]; exact ⟨σ',E',hk,hs'⟩
      · rw [sQ hid,cond_false] at hk
        rw [if_neg hid]; exact ⟨σ',E',hk,hs'⟩
    | goto l=>exact ⟨σ',E',hk,hs'⟩
    | ret=>exact ⟨σ',E',hk,hs'⟩
    | panic ch=>exact ⟨σ',E',hk,hs'⟩
    | outgrown=>exact ⟨σ',E',hk,hs'⟩⟩
theorem aC.cond {o:Operand} {b:Bool} (hb:gj σ [] o = some (bl b)) (ht:b = true→aC P N x K σ) (hf:b = false→aC P N y K σ):aC P N (.cond o x y) K σ :=
  ⟨fun B E a w hs=>by
    have hv:a.eval o = .bool b:=(iE hs (ch:=[]) rfl hb).lit_inv
    exact wp_cond_split hv (fun h=>(ht h).ok B E a w hs) fun h=>(hf h).ok B E a w hs⟩
theorem aC.loop (I:Nat→St→Prop) (m:Nat) (σ0:St) (h1:dv σ σ0) (h2:I m σ0)
    (h3:∀ m σ,I m σ→aC P N x (aH (fun σ'=>∃ m' σ'',m' < m∧dv σ' σ''∧I m' σ'') K) σ):aC P N (.loop x) K σ :=
  ⟨fun B E a w hs=>by
    obtain ⟨E0,hs0⟩:=h1.sim N B E a w hs
    exact RZ (fun K σ=>aC P N x K σ) x (fun K σ E a w h hs=>h.ok B E a w hs) I K h3 m σ0 E0 a w h2 hs0⟩
theorem aC.skip (h:K .normal σ):aC P N .skip K σ:=⟨fun _ E _ _ hs=>wp_skip ⟨σ,E,h,hs⟩⟩
theorem aC.exit {id:Nat} (h:K (.exit id) σ):aC P N (.exit id) K σ:=⟨fun _ E _ _ hs=>wp_exit ⟨σ,E,h,hs⟩⟩
theorem aC.ret (h:K .ret σ):aC P N .ret K σ:=⟨fun _ E _ _ hs=>wp_ret ⟨σ,E,h,hs⟩⟩
end
def ZP:Nat→Code→Code
  | 0,_=>.skip
  | n+1,c=>.seq (hd c) (ZP n (tl c))
def K8:Nat→Code→Bool
  | 0,_=>true
  | n+1, .seq _ y=>K8 n y
  | _,_=>false
theorem aC.cut {P:Program} {C:FuncId→Option CC} {N:Nat} {K:Exit→St→Prop} (hm:P.follows .mixedOrders = true) (hC:∀ f con,C f = some con→bR P f con) :
    ∀ (n:Nat) (c:Code) (σ:St),K8 n c = true→ev P C N (ZP n c) (aH (aC P N (Wx n c) K) K) σ→aC P N c K σ
  | 0,c,σ,_,h=>h
  | n+1,c,σ,hs,h=>by
    cases c with
    | seq x y =>
      have h':ev P C N x (aH (ev P C N (ZP n y) (aH (aC P N (Wx n y) K) K)) (aH (aC P N (Wx n y) K) K)) σ:=h
      refine .seq (.of_ev hm hC (Cn x ?_ h'))
      intro e σ' hk
      cases e with
      | normal=>exact aC.cut hm hC n y σ' hs hk
      | exit id=>exact hk
      | goto l=>exact hk
      | ret=>exact hk
      | panic ch=>exact hk
      | outgrown=>exact hk
    | _=>simp [K8] at hs
theorem Og {P:Program} {f:FuncId} {fn:Func} {c:Code} (hf:P.funcs[f]? = some fn) {con:bU} (hb:fn.body = some c) (hn:(fn.name == "runtime.NumGoroutine") = false)
    (h:∀ vs p out,con vs = some (p,out)→(∀ q∈p,q)→∃ vs',VLes vs vs'∧(vs'.length≤fn.ntmps∧fn.ntmps≤1000000)∧aC P fn.ntmps c (eC P fn.results.toList (dN out)) { tm:=gk vs' 0,hp:=[],nx:=0 }):bc P f con:=by
  intro ok w xs vs p out hx hok hcon hp
  obtain ⟨vs',hle,hN,hrun⟩:=h vs p out hcon hp
  refine .inl ⟨vz hf hb hn _ _, ?_⟩
  refine calls_of_wp hf hb (wp_mono (hrun.ok _ _ _ _ (Yt (hx.le hle) hok hN.1 hN.2)) ?_)
  rintro e a' w' ⟨σ',E',hk,hs'⟩
  have key:(match kY P σ' fn.results.toList with | some v=>dN out σ'.hp v | none=>False)→a'.defers = []∧∃ v,(results fn a'.tmps).run P w' = .ok v w'∧∃ v',Ending.returned v = .returned v'∧(Below w.heap.size w w'∧N9 ok w w' v' out):=by
    intro hk
    split at hk
    · next v hv =>
      obtain ⟨u,h1,h2⟩:=H7 hs' hv
      exact ⟨hs'.defers,u,h1,u,rfl,hs'.base.below,YB hs' h2 hk⟩
    · exact hk.elim
  cases e with
  | normal=>exact key hk
  | ret=>exact key hk
  | exit id=>exact hk.elim
  | goto l=>exact hk.elim
  | panic ch=>exact hk.elim
  | outgrown=>exact hk.elim
structure apt (P:Program) (C:FuncId→Option CC) (fn:Func) (vs:List V) (Q:am→V→Prop):Prop where
  h:aou P C fn vs Q
section
variable {σ σ':St}
def iQ:List Nat→List (Nat × bz)→List (Nat × bz)
  | [],_=>[]
  | t :: r,tm=>match bv tm t with | some s=>(t,s) :: iQ r tm | none=>iQ r tm
def zr:List Nat→am→am
  | [],_=>[]
  | o :: r,H=>match am.get H o with | some b=>(o,some b) :: zr r H | none=>zr r H
def jq (o:Nat) (l:List Nat):Bool:=l.any fun q=>Nat.beq q o
def Kk (os:List Nat) (s:bz):Bool:=s.ch.isEmpty&&(V.refs s.v).all fun o=>jq o os
def FX (os:List Nat):Ob→Bool
  | .box cs=>(V.refss cs).all fun o=>jq o os
  | .row ..=>true
  | .raw _=>true
def canon (ts os:List Nat) (nx:Nat) (σ:St):St:={ tm:=iQ ts σ.tm,hp:=zr os σ.hp,nx:=nx }
def BI (ts os:List Nat) (nx:Nat) (σ:St):Bool :=
  (iQ ts σ.tm).all (fun x=>Kk os x.2)&&(zr os σ.hp).all (fun x=>match x.2 with | some b=>FX os b | none=>false)&&os.all (fun o=>Nat.blt o nx)
theorem l8 {o:Nat} {l:List Nat} (h:jq o l = true):o∈l:=by
  obtain ⟨q,hq,hb⟩:=List.any_eq_true.1 h
  rw [← Nat.eq_of_beq_eq_true hb]; exact hq
theorem zu:∀ (ts:List Nat) (tm:List (Nat × bz)) (t:Nat) (s:bz),bv (iQ ts tm) t = some s→bv tm t = some s∧(t,s)∈iQ ts tm
  | [],tm,t,s,h=>by simp [iQ,bv] at h
  | q :: r,tm,t,s,h=>by
    unfold iQ at h ⊢
    split at h
    · next s' hs' =>
      rw [dw] at h
      skip
      split at h
      · next e=>subst e; cases h; exact ⟨hs',by simp⟩
      · have:=zu r tm t s h
        exact ⟨this.1,List.mem_cons_of_mem _ this.2⟩
    · next hs' =>
      skip
      exact zu r tm t s h
theorem FH:∀ (os:List Nat) (H:am) (o:Nat) (b:Ob),am.get (zr os H) o = some b→am.get H o = some b∧(o,some b)∈zr os H∧o∈os
  | [],H,o,b,h=>by simp [zr,am.get] at h
  | q :: r,H,o,b,h=>by
    unfold zr at h ⊢
    split at h
    · next s' hs' =>
      rw [am.get_cons] at h
      skip
      split at h
      · next e=>subst e; cases h; exact ⟨hs',by simp,by simp⟩
      · have:=FH r H o b h
        exact ⟨this.1,List.mem_cons_of_mem _ this.2.1,List.mem_cons_of_mem _ this.2.2⟩
    · next hs' =>
      skip
      have:=FH r H o b h
      exact ⟨this.1,this.2.1,List.mem_cons_of_mem _ this.2.2⟩
theorem aK.only {E:br} {w:World} {os:List Nat} {v:Value} {d:V} (h:aK E w v d):(∀ o∈V.refs d,o∈os)→aK { E with live:=fun o=>E.live o∧o∈os } w v d:=by
  induction h with
  | c v d h=>exact fun _=>.c v d h
  | agg vs ds hl h ih =>
    intro hr
    exact .agg vs ds hl fun i v d hv hd=>ih i v d hv hd fun o ho=>hr o (dx hd ho)
  | tup vs ds hl h ih =>
    intro hr
    exact .tup vs ds hl fun i v d hv hd=>ih i v d hv hd fun o ho=>hr o (dx hd ho)
  | ptr o k i j b h1 h2 h3=>exact fun hr=>.ptr o k i j b ⟨h1,hr o (by simp [V.refs])⟩ h2 h3
  | row o k off n a c hn hc hm hl ha h0=>exact fun hr=>.row o k off n a c ⟨hn,hr o (by simp [V.refs])⟩ hc hm hl ha h0
  | dptr k cs j ad u h1 h2 h3 h4=>exact fun _=>.dptr k cs j ad u h1 h2 h3 h4
  | fn f vs ds hl h ih =>
    intro hr
    exact .fn f vs ds hl fun i v d hv hd=>ih i v d hv hd fun o ho=>hr o (dx hd ho)
theorem dv.canon (ts os:List Nat) (nx:Nat) (h:BI ts os nx σ = true):dv σ (canon ts os nx σ):=by
  unfold BI at h
  simp only [Bool.and_eq_true] at h
  obtain ⟨⟨h1,h2⟩,h3⟩:=h
  refine ⟨fun N B E a w hs=>⟨{ E with live:=fun o=>E.live o∧o∈os },hs.size,hs.small,hs.defers,fun q hq hl=>?_,⟨fun o ob ho=>?_,fun o o' b a b'=>hs.heap.inj o o' b a.1 b'.1,fun o b a=>hs.heap.sep o b a.1,fun o b a=>hs.heap.lt o b a.1,hs.heap.oklt⟩,fun t s hg=>?_,hs.base,fun o b a=>hs.own o b a.1,hs.okold⟩⟩
  · have:=List.all_eq_true.1 h3 q hl.2
    simp only [Nat.blt_eq] at this
    have hq':nx≤q:=hq
    omega
  · obtain ⟨g1,g2,g3⟩:=FH os σ.hp o ob ho
    obtain ⟨l1,l2⟩:=hs.heap.at_ o ob g1
    refine ⟨⟨l1,g3⟩, ?_⟩
    have hok:=List.all_eq_true.1 h2 _ g2
    cases ob with
    | box cs =>
      obtain ⟨e1,b,Cs,t,e2,e3,e4⟩:=l2
      refine ⟨e1,b,Cs,t,e2,e3,e4.1,fun i v d hv hd=>(e4.2 i v d hv hd).only fun q hq=>?_⟩
      exact l8 (List.all_eq_true.1 hok q (dx hd hq))
    | row t k n el=>exact l2
    | raw x=>exact l2
  · obtain ⟨g1,g2⟩:=zu ts σ.tm t s hg
    have hok:=List.all_eq_true.1 h1 _ g2
    unfold Kk at hok
    simp only [Bool.and_eq_true,List.isEmpty_iff] at hok
    have hh:=hs.slots t s g1
    refine ⟨fun _=>(hh.1 (by rw [hok.1]; rfl)).only fun q hq=>l8 (List.all_eq_true.1 hok.2 q hq),fun _ h=>?_⟩
    rw [hok.1] at h
    simp [holds] at h
end
end Go.Ax
namespace Go.Ax
open Go.RowKit
def pD:Ob→Ob→Prop
  | .box cs, .box cs'=>VLes cs cs'
  | .raw x, .raw y=>x = y
  | .row t k n el, .row t' k' n' el'=>t = t'∧k = k'∧n = n'∧∀ i,i < n→be (el i) (el' i)
  | _,_=>False
def bM (tm:List (Nat × bz)):List (Nat × bz)→Prop
  | []=>True
  | (t,s') :: r=>(match bv tm t with | some s=>s.ch = []∧s'.ch = []∧VLe s.v s'.v | none=>False)∧bM tm r
def cC (H:am):am→Prop
  | []=>True
  | (_,none) :: _=>False
  | (o,some b') :: r=>(match am.get H o with | some b=>pD b b' | none=>False)∧cC H r
def ajF (σ σ':St):Prop:=bM σ.tm σ'.tm∧cC σ.hp σ'.hp∧σ.nx≤σ'.nx
section
variable {σ σ':St} {E:br} {a:Act} {w:World} {N:Nat} {B:j5}
theorem O5:∀ {tm tm':List (Nat × bz)},bM tm tm'→∀ t s',bv tm' t = some s'→∃ s,bv tm t = some s∧s.ch = []∧s'.ch = []∧VLe s.v s'.v
  | tm,[],_,t,s',h=>by simp [bv] at h
  | tm,(q,x) :: r,hl,t,s',h=>by
    rw [bM] at hl
    rw [dw] at h
    split at h
    · next e =>
      subst e; cases h
      have h1:=hl.1
      cases hg:bv tm q with
      | none=>rw [hg] at h1; exact h1.elim
      | some s=>rw [hg] at h1; exact ⟨s,rfl,h1⟩
    · exact O5 hl.2 t s' h
theorem IZ:∀ {H H':am},cC H H'→∀ o b',am.get H' o = some b'→∃ b,am.get H o = some b∧pD b b'
  | H,[],_,o,b',h=>by simp [am.get] at h
  | H,(q,none) :: r,hl,o,b',h=>by simp [cC] at hl
  | H,(q,some x) :: r,hl,o,b',h=>by
    rw [cC] at hl
    rw [am.get_cons] at h
    split at h
    · next e =>
      subst e; cases h
      have h1:=hl.1
      cases hg:am.get H q with
      | none=>rw [hg] at h1; exact h1.elim
      | some s=>rw [hg] at h1; exact ⟨s,rfl,h1⟩
    · exact IZ hl.2 o b' h
theorem ly.le {o:Nat} {b b':Ob} (h:ly E w o b) (hl:pD b b'):ly E w o b':=by
  cases b with
  | box cs =>
    cases b' with
    | box cs' =>
      obtain ⟨e1,b,Cs,t,e2,e3,e4⟩:=h
      exact ⟨e1,b,Cs,t,e2,e3,e4.le hl⟩
    | row=>exact hl.elim
    | raw x=>exact hl.elim
  | raw x =>
    cases b' with
    | box cs'=>exact hl.elim
    | row=>exact hl.elim
    | raw y=>have:x = y:=hl; subst this; exact h
  | row t k n el =>
    cases b' with
    | raw x=>exact hl.elim
    | box cs'=>exact hl.elim
    | row t' k' n' el' =>
      obtain ⟨rfl,rfl,rfl,he⟩:=hl
      obtain ⟨h1,h2⟩:=h
      refine ⟨h1,h2.imp id ?_⟩
      rintro ⟨b,Cs,g1,g2,g3,g4,g5,g6,g7,g8⟩
      exact ⟨b,Cs,g1,g2,g3,g4,g5,fun i hi=>(he i hi).1.symm.trans (g6 i hi),g7,fun i j d u hi hd hu=>by
        have hj:j < (el i).length:=by rw [(he i hi).1]; exact (List.getElem?_eq_some_iff.1 hd).1
        exact (g8 i j _ u hi (List.getElem?_eq_getElem hj) hu).le ((he i hi).2 j _ d (List.getElem?_eq_getElem hj) hd)⟩
theorem dv.le (h:ajF σ σ'):dv σ σ':=by
  obtain ⟨h1,h2,h3⟩:=h
  refine ⟨fun N B E a w hs=>⟨E,hs.size,hs.small,hs.defers,fun q hq=>hs.live q (Nat.le_trans h3 hq),⟨fun o ob ho=>?_,hs.heap.inj,hs.heap.sep,hs.heap.lt,hs.heap.oklt⟩,fun t s hg=>?_,hs.base,hs.own,hs.okold⟩⟩
  · obtain ⟨b,g1,g2⟩:=IZ h2 o ob ho
    obtain ⟨l1,l2⟩:=hs.heap.at_ o b g1
    exact ⟨l1,l2.le g2⟩
  · obtain ⟨s',g1,g2,g3,g4⟩:=O5 h1 t s hg
    have hh:=hs.slots t s' g1
    refine ⟨fun _=>(hh.1 (by rw [g2]; rfl)).le g4,fun _ h=>?_⟩
    rw [g3] at h
    simp [holds] at h
theorem dv.to (ts os:List Nat) (nx:Nat) (h:BI ts os nx σ = true) (hl:ajF (Go.Ax.canon ts os nx σ) σ'):dv σ σ':=(dv.canon ts os nx h).trans (.le hl)
theorem dv.nilrow (t o e k:Nat) (el:Nat→List D) (hn:σ.nx≤o) (hg:bv σ.tm t = some ⟨[], .c .nil⟩):dv σ { tm:=(t,⟨[], .row o k 0 0⟩) :: σ.tm,hp:=(o,some (.row e k 0 el)) :: σ.hp,nx:=o+1 }:=by
  refine ⟨fun N B E a w hs=>?_⟩
  have hf:¬ E.live o:=hs.live o hn
  have hS:gz E w [] (E.next o none 0 0 E.ok) w:=gL hf none 0 0 E.ok (.refl _ _) (by simp) (fun _ h=>h) (fun _ h=>.inl h)
  have hN:bG (E.next o none 0 0 E.ok) w σ.hp:=iJ hf hs.heap (.refl _ _) (by simp) (fun _ h=>h) (fun _ h=>.inl h) hs.heap.oklt
  have hown:∀ q b,(E.next o none 0 0 E.ok).live q→(E.next o none 0 0 E.ok).conc q = some b→B.W.heap.size≤b∨B.mb b:=by
    intro q b ho h
    rcases hS.concnew q b ho h with ⟨q,h1,h2⟩ | h
    · exact hs.own q b h1 h2
    · have:=hs.base.size; exact .inl (by omega)
  have hslot:∀ q s,bv σ.tm q = some s→(holds σ.tm s.ch = true→aK (E.next o none 0 0 E.ok) w (kT B a q) s.v):=fun q s hg' h=>kJ hs.heap hS ((hs.slots q s hg').1 h)
  have hbool:∀ q,cQ (bv ((t,(⟨[], .row o k 0 0⟩:bz)) :: σ.tm) q) = cQ (bv σ.tm q):=by
    intro q
    rw [dw]
    split
    · next e=>subst e; rw [hg]; rfl
    · rfl
  refine ⟨_,hs.size,hs.small,hs.defers,fun q hq=>?_,⟨fun q ob ho=>?_,hN.inj,hN.sep,hN.lt,hN.oklt⟩,fun q s hq=>?_,hs.base,hown,hs.okold⟩
  · have hq':o+1≤q:=hq
    rintro (h | h)
    · omega
    · exact hs.live q (by omega) h
  · rw [am.get_cons] at ho
    split at ho
    · next e'=>subst e'; cases ho; exact ⟨.inl rfl,by simp [br.next], .inl ⟨by simp [br.next],rfl⟩⟩
    · exact hN.at_ q ob ho
  · rw [dw] at hq
    split at hq
    · next e' =>
      subst e'; cases hq
      refine ⟨fun _=>?_,fun _ h=>by simp [holds] at h⟩
      have hv:=(hs.slots t _ hg).1 rfl
      have:kT B a t = .slice none 0 0:=hv.nil_inv
      simp only
      rw [this]
      exact .row o k 0 0 none 0 (.inl rfl) (Nat.le_refl _) (by simp [maxLen]) (by simp [br.next]) (fun h=>by omega) (fun _=>.inl ⟨rfl,rfl,by simp [br.next]⟩)
    · refine kH (tm:=σ.tm) ⟨hslot q s hq,(hs.slots q s hq).2⟩ fun x _ _=>hbool x.1
end
section
variable {P:Program} {C:FuncId→Option CC} {fn:Func} {vs:List V} {Q Q':am→V→Prop}
mutual
theorem VLe.rfl':∀ v:V,VLe v v
  | .c d=>by
    rw [VLe]; exact .refl _
  | .agg vs=>by rw [VLe]; exact VLes.rfl' vs
  | .tup vs=>by rw [VLe]; exact VLes.rfl' vs
  | .ptr ..=>by simp [VLe]
  | .row ..=>by simp [VLe]
  | .dptr ..=>by rw [VLe]; exact ⟨rfl,rfl, .refl _⟩
  | .fn ..=>by simp [VLe]
theorem VLes.rfl':∀ vs:List V,VLes vs vs
  | []=>trivial
  | v :: r=>⟨VLe.rfl' v,VLes.rfl' r⟩
end
end
def cK (ts os:List Nat) (nx:Nat) (Q:Exit→St→Prop) (e:Exit) (σ:St):Prop:=bif BI ts os nx σ then Q e (Go.Ax.canon ts os nx σ) else False
def wK (K:Exit→St→Prop) (e:Exit) (σ:St):Prop:=∃ σ',dv σ σ'∧K e σ'
section
variable {P:Program} {C:FuncId→Option CC} {N:Nat} {c:Code} {K:Exit→St→Prop} {σ:St}
theorem Zv {ts os:List Nat} {nx:Nat} {e:Exit} (h:cK ts os nx K e σ):wK K e σ:=by
  unfold cK at h
  cases hc:BI ts os nx σ with
  | false=>rw [hc] at h; exact h.elim
  | true=>rw [hc,cond_true] at h; exact ⟨_,dv.canon ts os nx hc,h⟩
theorem aC.weak (h:aC P N c (wK K) σ):aC P N c K σ :=
  ⟨fun B E a w hs=>wp_mono (h.ok B E a w hs) fun _ a' w' ⟨_,E',⟨σ2,he,hk⟩,hs'⟩=>by
    obtain ⟨E2,hs2⟩:=he.sim N B E' a' w' hs'
    exact ⟨σ2,E2,hk,hs2⟩⟩
theorem aC.piece (hm:P.follows .mixedOrders = true) (hC:∀ f con,C f = some con→bR P f con) (n:Nat) (ts os:List Nat) (nx:Nat) (hs:K8 n c = true)
    (h:ev P C N (ZP n c) (cK ts os nx (aH (aC P N (Wx n c) K) K)) σ):aC P N c K σ:=by
  refine .weak (.cut hm hC n c σ hs (Cn _ ?_ h))
  intro e σ' hk
  obtain ⟨σ2,he,hk⟩:=Zv hk
  cases e with
  | normal=>exact .ent he (aC.mono hk fun e σ h=>⟨σ, .refl σ,h⟩)
  | exit id=>exact ⟨σ2,he,hk⟩
  | goto l=>exact ⟨σ2,he,hk⟩
  | ret=>exact ⟨σ2,he,hk⟩
  | panic ch=>exact ⟨σ2,he,hk⟩
  | outgrown=>exact ⟨σ2,he,hk⟩
theorem aC.all (hm:P.follows .mixedOrders = true) (hC:∀ f con,C f = some con→bR P f con) (ts os:List Nat) (nx:Nat) (h:ev P C N c (cK ts os nx K) σ):aC P N c K σ :=
  .weak (.of_ev hm hC (Cn _ (fun _ _ hk=>Zv hk) h))
end
end Go.Ax
