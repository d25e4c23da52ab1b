import Derived.Test.YtgamnldjlncdlaaGreatZA12
set_option linter.all false
/- Own rows that become data: in a state, and at a call. -/
namespace Go.Ax
open Go.RowKit
section
variable {P:Program} {σ:St} {E:br} {w:World} {H:am}
def ai8 (o:Nat) (el:Nat→List D) (k:Nat):Option Ob→Option Ob
  | some (.box cs)=>some (.box (V.fzs o el k cs))
  | b=>b
def UA (o:Nat) (el:Nat→List D) (k:Nat):am→am
  | []=>[]
  | x :: r=>(x.1,ai8 o el k x.2) :: UA o el k r
def Rs (o:Nat) (el:Nat→List D) (k:Nat):List (Nat × bz)→List (Nat × bz)
  | []=>[]
  | x :: r=>(x.1,⟨x.2.ch,V.fz o el k x.2.v⟩) :: Rs o el k r
theorem RE (o:Nat) (el:Nat→List D) (k:Nat):∀ (H:am) (q:Nat),am.get (UA o el k H) q = ai8 o el k (am.get H q)
  | [],q=>rfl
  | (p,b) :: H,q=>by
    have ih:=RE o el k H q
    rw [UA,am.get_cons,am.get_cons]
    split
    · rfl
    · exact ih
theorem I4 (o:Nat) (el:Nat→List D) (k:Nat):∀ (tm:List (Nat × bz)) (t:Nat),bv (Rs o el k tm) t = (bv tm t).map fun s=>⟨s.ch,V.fz o el k s.v⟩
  | [],t=>rfl
  | (q,s) :: r,t=>by
    rw [Rs,dw,dw]
    split
    · rfl
    · exact I4 o el k r t
theorem agu {o:Nat} {el:Nat→List D} {k:Nat} {v:V} {b:Bool} (h:V.fz o el k v = .c (.lit (.bool b))):v = .c (.lit (.bool b)):=by
  cases v with
  | c d=>exact h
  | agg vs=>simp [V.fz] at h
  | tup vs=>simp [V.fz] at h
  | ptr o' k' i j=>rw [V.fz] at h; cases hb:Nat.beq o' o <;> rw [hb] at h <;> simp at h
  | row o' k' i j =>
    rw [V.fz] at h
    cases hb:Nat.beq o' o with
    | false=>rw [hb] at h; simp at h
    | true =>
      rw [hb,cond_true] at h
      cases hk:Nat.beq k k' <;> rw [hk] at h <;> simp at h
  | dptr k' cs j=>simp [V.fz] at h
  | fn f vs=>simp [V.fz] at h
theorem Vw (o:Nat) (el:Nat→List D) (k:Nat) (s:Option bz):cQ (s.map fun s=>⟨s.ch,V.fz o el k s.v⟩) = cQ s:=by
  cases s with
  | none=>rfl
  | some s =>
    obtain ⟨ch,v⟩:=s
    cases hb:cQ (some ⟨ch,v⟩) with
    | some b =>
      obtain ⟨ch',e⟩:=pW hb
      cases e
      rfl
    | none =>
      cases hb2:cQ (Option.map (fun s:bz=>(⟨s.ch,V.fz o el k s.v⟩:bz)) (some ⟨ch,v⟩)) with
      | none=>rfl
      | some b =>
        obtain ⟨ch',e⟩:=pW hb2
        simp only [Option.map_some,Option.some.injEq,bz.mk.injEq] at e
        have:=agu e.2
        subst this
        simp [cQ] at hb
theorem Yn {o:Nat} (hH:bG E w H) {e:TypeId} {k n:Nat} {el:Nat→List D} (hg:H.get o = some (.row e k n el)):bG (E.fz o) w ((o,some (.row e k 0 el)) :: UA o el k H):=by
  have h0:=Ml hH hg
  refine ⟨fun q ob hq=>?_,h0.inj,h0.sep,h0.lt,h0.oklt⟩
  rw [am.get_cons] at hq
  split at hq
  · next e1=>subst e1; cases hq; exact h0.at_ _ _ (by rw [am.get_cons,if_pos rfl])
  · next hne =>
    rw [RE] at hq
    cases hy:am.get H q with
    | none=>rw [hy] at hq; cases hq
    | some y =>
      rw [hy] at hq
      cases y with
      | row t k' n' el'=>cases hq; exact h0.at_ q _ (by rw [am.get_cons,if_neg hne,iv,hy]; rfl)
      | raw x=>cases hq; exact h0.at_ q _ (by rw [am.get_cons,if_neg hne,iv,hy]; rfl)
      | box cs =>
        cases hq
        obtain ⟨h1,h2,b,C,t,h3,h4,h5⟩:=hH.at_ q _ hy
        obtain ⟨c1,c2,c3⟩:=Hx (E:=E) (fun e=>hne e.symm:q≠o)
        refine ⟨h1,c3.trans h2,b,C,t,c1.trans h3,h4,by rw [mf]; exact h5.1,fun i v d hv hd=>?_⟩
        rw [tN] at hd
        cases hx:cs[i]? with
        | none=>rw [hx] at hd; cases hd
        | some y=>rw [hx] at hd; cases hd; exact Jx hH hg (h5.2 i v y hv hx)
theorem dv.fz (o e k n:Nat) (el:Nat→List D) (hg:am.get σ.hp o = some (.row e k n el)):dv σ { tm:=Rs o el k σ.tm,hp:=(o,some (.row e k 0 el)) :: UA o el k σ.hp,nx:=σ.nx }:=by
  refine ⟨fun N B E a w hs=>⟨E.fz o,hs.size,hs.small,hs.defers,hs.live,Yn hs.heap hg,fun t s ht=>?_,hs.base,fun q b hq hb=>hs.own q b hq (rg hb).2,fun b hb=>?_⟩⟩
  · have ht':bv (Rs o el k σ.tm) t = some s:=ht
    rw [I4] at ht'
    cases hx:bv σ.tm t with
    | none=>rw [hx] at ht'; cases ht'
    | some s0 =>
      rw [hx] at ht'; cases ht'
      have h0:=hs.slots t s0 hx
      have h1:pY σ.tm (E.fz o) w (kT B a t) ⟨s0.ch,V.fz o el k s0.v⟩:=⟨fun hh=>Jx hs.heap hg (h0.1 hh),h0.2⟩
      exact kH (tm:=σ.tm) h1 fun x _ _=>by
        show cQ (bv (Rs o el k σ.tm) x.1) = _
        rw [I4,Vw]
  · rcases hb with h | h
    · exact hs.okold b h
    · exact .inr (hs.own o b (hs.heap.at_ o _ hg).1 h)
mutual
theorem fz_refs (o:Nat) (el:Nat→List D) (k:Nat):∀ d:V, ∀ x∈(d.fz o el k).refs,x∈d.refs
  | .c _,x,h=>by simp [V.fz,V.refs] at h
  | .agg vs,x,h=>by rw [V.fz,V.refs] at h; rw [V.refs]; exact fzs_refs o el k vs x h
  | .tup vs,x,h=>by rw [V.fz,V.refs] at h; rw [V.refs]; exact fzs_refs o el k vs x h
  | .ptr o' k' i j,x,h=>by
    rw [V.fz] at h
    cases hb:Nat.beq o' o with
    | false=>rw [hb,cond_false] at h; exact h
    | true=>rw [hb,cond_true] at h; simp [V.refs] at h
  | .row o' k' i j,x,h=>by
    rw [V.fz] at h
    cases hb:Nat.beq o' o with
    | false=>rw [hb,cond_false] at h; exact h
    | true =>
      rw [hb,cond_true] at h
      cases hk:Nat.beq k k' <;> rw [hk] at h <;> simp [V.refs] at h
  | .dptr ..,x,h=>by rw [V.fz] at h; exact h
  | .fn _ vs,x,h=>by rw [V.fz,V.refs] at h; rw [V.refs]; exact fzs_refs o el k vs x h
theorem fzs_refs (o:Nat) (el:Nat→List D) (k:Nat):∀ vs:List V, ∀ x∈V.refss (V.fzs o el k vs),x∈V.refss vs
  | [],x,h=>by simp [V.fzs,V.refss] at h
  | v :: r,x,h=>by
    rw [V.fzs,V.refss,List.mem_append] at h
    rw [V.refss,List.mem_append]
    exact h.imp (fz_refs o el k v x) (fzs_refs o el k r x)
end
def Gr:List Bool→List V→List Nat
  | _,[]=>[]
  | b :: fl,v :: r=>(bif b then [] else v.refs)++Gr fl r
  | [],v :: r=>v.refs++Gr [] r
theorem G8:∀ (fl:List Bool) (vs:List V), ∀ x∈Gr fl vs,x∈V.refss vs
  | _,[],x,h=>by cases ‹List Bool› <;> simp [Gr] at h
  | true :: fl,v :: r,x,h=>by
    rw [Gr,cond_true,List.nil_append] at h
    rw [V.refss,List.mem_append]
    exact .inr (G8 fl r x h)
  | false :: fl,v :: r,x,h=>by
    rw [Gr,cond_false,List.mem_append] at h
    rw [V.refss,List.mem_append]
    exact h.imp id (G8 fl r x)
  | [],v :: r,x,h=>by
    rw [Gr,List.mem_append] at h
    rw [V.refss,List.mem_append]
    exact h.imp id (G8 [] r x)
def uf (m:am→Nat→List V→Option cM) (nid:Nat):List Nat→am→List V→Option cM
  | [],H,vs=>m (eH (dE H vs) H) nid vs
  | o :: fl,H,vs=>match H.get o with
    | some (.row e k _ el)=>(uf m nid fl ((o,some (.row e k 0 el)) :: gX [o] H) (V.fzs o el k vs)).map fun r=>{ r with eff:=r.eff++[(o,some (.row e k 0 el))],kill:=o :: r.kill }
    | _=>none
def fzM (fl:List Bool) (m:am→Nat→List V→Option cM):am→Nat→List V→Option cM:=fun H nid args=>uf m nid (Gr fl args) H args
theorem xA {H:am}:∀ {os:List Nat} {o:Nat},o∈os→am.get (eH os H) o = am.get H o
  | [],o,h=>by simp at h
  | q :: r,o,h=>by
    unfold eH
    by_cases e:q = o
    · subst e
      cases hq:am.get H q with
      | some b=>rw [am.get_cons,if_pos rfl]
      | none =>
        by_cases hr:q∈r
        · exact (xA hr).trans hq
        · exact restr_none r hq
    · have hr:o∈r:=(List.mem_cons.1 h).resolve_left fun e'=>e e'.symm
      split
      · rw [am.get_cons,if_neg e]; exact xA hr
      · exact xA hr
where restr_none {q:Nat}:∀ (r:List Nat),am.get H q = none→am.get (eH r H) q = none
  | [],_=>rfl
  | p :: r,h=>by
    unfold eH
    split
    · next b hb =>
      rw [am.get_cons]
      split
      · next e=>subst e; rw [h] at hb; cases hb
      · exact restr_none r h
    · exact restr_none r h
theorem JS {m:am→Nat→List V→Option cM} {nid:Nat}:∀ (fl:List Nat) (H H':am) (vs:List V),kS H H' (V.refss vs)→(∀ o∈fl,H.get o = H'.get o)→uf m nid fl H vs = uf m nid fl H' vs
  | [],H,H',vs,h,_=>by
    rw [uf,uf,pM h,AF _ fun o ho=>M3 h (by rw [pM h]; exact ho)]
  | q :: fl,H,H',vs,h,hf=>by
    rw [uf,uf, ← hf q (by simp)]
    split
    · next e k n el hq =>
      have key:∀ p,H.get p = H'.get p→am.get ((q,some (.row e k 0 el)) :: gX [q] H) p = am.get ((q,some (.row e k 0 el)) :: gX [q] H') p:=fun p hp=>by
        rw [am.get_cons,am.get_cons,iv,iv,hp]
      refine congrArg _ (JS fl _ _ _ ⟨fun p hp=>key p (h.one p (fzs_refs _ _ _ _ p hp)),fun p hp cs hcs x hx=>?_⟩ fun p hp=>key p (hf p (by simp [hp])))
      rw [am.get_cons] at hcs
      split at hcs
      · cases hcs
      · rw [iv] at hcs
        obtain ⟨y,hy,hky⟩:=As hcs
        cases y with
        | box cs0 =>
          cases hky
          exact key x (h.two p (fzs_refs _ _ _ _ p hp) cs0 hy x (kills_refs _ _ x hx).1)
        | row t k' n' el'=>cases hky
        | raw z=>cases hky
    · rfl
theorem Rw {f:FuncId} {m:am→Nat→List V→Option cM} (h:bR P f (.mut m)) {nid:Nat} {xs:List Value}:∀ (fl:List Nat) (E:br) (H:am) (vs:List V) (r:cM),bG E w H→¬ E.live nid→cq E w xs vs→uf m nid fl H vs = some r→(∀ p∈r.pre,p) →
    wx P f xs.toArray w fun v w'=>∃ E',gn E w H nid r E' w' v
  | [],E,H,vs,r,hH,hf,hv,hr,hp=>h E w H nid xs vs r hH hf hv hr hp
  | q :: fl,E,H,vs,r,hH,hf,hv,hr,hp=>by
    rw [uf] at hr
    split at hr
    · next e k n el hg =>
      have hq:=(hH.at_ q _ hg).1
      cases hb:uf m nid fl ((q,some (.row e k 0 el)) :: gX [q] H) (V.fzs q el k vs) with
      | none=>rw [hb] at hr; cases hr
      | some r0 =>
        rw [hb] at hr; cases hr
        refine wx.mono (Rw h fl (E.fz q) _ _ r0 (Ml hH hg) hf ⟨by rw [mf]; exact hv.1,fun i v d hi hd=>by
          rw [tN] at hd
          cases hx:vs[i]? with
          | none=>rw [hx] at hd; cases hd
          | some x=>rw [hx] at hd; cases hd; exact Jx hH hg (hv.2 i v x hi hx)⟩ hb hp) fun v w' h2=>?_
        obtain ⟨E',h2⟩:=h2
        refine ⟨E',(Mn hq).trans1 h2.st (fun _ h=>h) (fun _ _ h=>(rg h).2), ?_,h2.val,h2.live⟩
        have h3:=h2.heap
        rw [CW] at h3
        rw [List.append_assoc]
        exact h3
    · cases hr
theorem UB {f:FuncId} {m:am→Nat→List V→Option cM} (fl:List Bool) (h:bR P f (.mut m)):bR P f (.mut (fzM fl m)):=by
  intro E w H0 nid xs args r hH hf hx hm hp
  have hag:kS H0 (eH (dE H0 args) H0) (V.refss args):=AJ fun o ho=>(xA ho).symm
  have e:uf m nid (Gr fl args) (eH (dE H0 args) H0) args = uf m nid (Gr fl args) H0 args:=(JS _ _ _ _ hag fun o ho=>hag.one o (G8 fl args o ho)).symm
  exact Rw h (Gr fl args) E H0 args r hH hf hx (e ▸ hm) hp
end
structure Gb where
  pre:List Prop
  val:V
  obs:List Ob
  kls:List Bool
def zP:List V→List V
  | []=>[]
  | .c .nil :: r=>.c (.sl 0 0 fun _=>[]) :: zP r
  | v :: r=>v :: zP r
def vP:Ob→Ob
  | .box cs=>.box (zP cs)
  | b=>b
def VR:List Bool→List V→List Nat
  | b :: fl,v :: r=>(bif b then v.refs else [])++VR fl r
  | _,_=>[]
def oD (fl:List Bool) (H:am) (args:List V):List Nat:=NT H (Th [] (VR fl args))
def nJ (H:am) (os:List Nat):List Nat→List Ob
  | []=>[]
  | o :: r=>match am.get H o with | some b=>vP (b.ren os) :: nJ H os r | none=>nJ H os r
def zB:Nat→List Ob→am
  | _,[]=>[]
  | i,b :: r=>(i,some b) :: zB (i+1) r
def sB (f:Nat→Nat):List Nat→List Ob→am
  | o :: r,b :: s=>(o,some (b.mp f)) :: sB f r s
  | _,_=>[]
def lO:List Nat→List Bool→List Nat
  | o :: r,k :: s=>bif k then o :: lO r s else lO r s
  | _,_=>[]
def PB:List Nat→Nat→Nat
  | [],_=>0
  | o :: _,0=>o
  | _ :: r,i+1=>PB r i
def lF (nr:Bool) (fl:List Bool) (mc:List V→List Ob→Option Gb):am→Nat→List V→Option cM:=fun H _ args =>
  bif hY (oD fl H args)&&zO (oD fl H args) H&&dY (oD fl H args) H nr fl args then
    match mc (kR (oD fl H args) H fl args) (nJ H (oD fl H args) (oD fl H args)) with
    | some g=>bif Nat.beq g.obs.length (oD fl H args).length&&Nat.beq g.kls.length (oD fl H args).length then some { pre:=g.pre,val:=g.val,eff:=sB (PB (oD fl H args)) (oD fl H args) g.obs,kill:=lO (oD fl H args) g.kls } else none
    | none=>none
  else none
def je (nr:Bool) (qs:List Nat) (σ:St):Nat→List Ob→List Nat→List Ob→List Bool→Prop
  | _,[],[],[],[]=>True
  | i,ob0 :: r0,q :: rq,ob' :: r',k :: rk=>(∃ ob,am.get σ.hp q = some ob∧pD (ob.mp (pk qs)) ob'∧((nL ob).all fun p=>jq p qs) = true∧((tx ob).all fun p=>qq (am.get σ.hp p)) = true∧(nr = true∨TW ob) ∧
      (k = true∨xI ob0 ob∧bv σ.tm (1000000+i) = some ⟨[],dg q ob0⟩))∧je nr qs σ (i+1) r0 rq r' rk
  | _,_,_,_,_=>False
structure ql (nr:Bool) (obs0:List Ob) (g:Gb) (qs:List Nat) (σ:St) (v:V):Prop where
  nd:hY qs = true
  refs:v.refs = []
  val:VLe v g.val
  sc:nr = true∨v.sclr = true
  go:je nr qs σ 0 obs0 qs g.obs g.kls
theorem VLe.split {x y:V} (h:VLe x y):x = y∨y = .c .unk∨(∃ d d',x = .c d∧y = .c d'∧eN d d')∨(∃ xs ys,x = .agg xs∧y = .agg ys∧VLes xs ys)∨(∃ xs ys,x = .tup xs∧y = .tup ys∧VLes xs ys) ∨
    ∃ k cs j k' cs' j',x = .dptr k cs j∧y = .dptr k' cs' j'∧VLe x y:=by
  have h0:=h
  rw [VLe.eq_def] at h
  split at h
  · exact .inr (.inr (.inl ⟨_,_,rfl,rfl,h⟩))
  · exact .inr (.inr (.inr (.inl ⟨_,_,rfl,rfl,h⟩)))
  · exact .inr (.inr (.inr (.inr (.inl ⟨_,_,rfl,rfl,h⟩))))
  · exact .inr (.inr (.inr (.inr (.inr ⟨_,_,_,_,_,_,rfl,rfl,h0⟩))))
  · exact .inr (.inl rfl)
  · exact .inl h
theorem VLe.unk' (x:V):VLe x (.c .unk):=by
  cases x <;> rw [VLe.eq_def] <;> first | exact eN.unk _ | trivial
mutual
theorem VLe.mp (f:Nat→Nat) (x y:V) (h:VLe x y):VLe (x.mp f) (y.mp f):=by
  rcases VLe.split h with rfl | rfl | ⟨d,d',rfl,rfl,h1⟩ | ⟨xs,ys,rfl,rfl,h1⟩ | ⟨xs,ys,rfl,rfl,h1⟩ | ⟨k,cs,j,k',cs',j',rfl,rfl,h1⟩
  · exact VLe.rfl' _
  · exact VLe.unk' _
  · exact h
  · rw [V.mp,V.mp,VLe]; exact VLes.mp f xs ys h1
  · rw [V.mp,V.mp,VLe]; exact VLes.mp f xs ys h1
  · exact h
termination_by SizeOf.sizeOf x
theorem VLes.mp (f:Nat→Nat) (xs ys:List V) (h:VLes xs ys):VLes (V.mps f xs) (V.mps f ys):=by
  match xs,ys,h with
  | [],[],h=>exact h
  | x :: xs,y :: ys,h=>rw [VLes] at h; rw [V.mps,V.mps,VLes]; exact ⟨VLe.mp f x y h.1,VLes.mp f xs ys h.2⟩
  | [],_ :: _,h=>simp [VLes] at h
  | _ :: _,[],h=>simp [VLes] at h
termination_by SizeOf.sizeOf xs
end
theorem pD.mp (f:Nat→Nat) {x y:Ob} (h:pD x y):pD (x.mp f) (y.mp f):=by
  cases x with
  | box cs=>cases y with
    | box cs'=>exact VLes.mp f cs cs' h
    | _=>exact h
  | row t k n el=>cases y <;> exact h
  | raw x=>cases y <;> exact h
mutual
theorem mp_mp (f g j:Nat→Nat):∀ v:V,(∀ q∈v.refs,g (f q) = j q)→(v.mp f).mp g = v.mp j
  | .c _,_=>rfl
  | .agg vs,h=>by rw [V.mp,V.mp,V.mp,mps_mps f g j vs (by rw [V.refs] at h; exact h)]
  | .tup vs,h=>by rw [V.mp,V.mp,V.mp,mps_mps f g j vs (by rw [V.refs] at h; exact h)]
  | .ptr o k i n,h=>by rw [V.mp,V.mp,V.mp,h o (by simp [V.refs])]
  | .row o k i n,h=>by rw [V.mp,V.mp,V.mp,h o (by simp [V.refs])]
  | .dptr ..,_=>rfl
  | .fn _ vs,h=>by rw [V.mp,V.mp,V.mp,mps_mps f g j vs (by rw [V.refs] at h; exact h)]
theorem mps_mps (f g j:Nat→Nat):∀ vs:List V,(∀ q∈V.refss vs,g (f q) = j q)→V.mps g (V.mps f vs) = V.mps j vs
  | [],_=>rfl
  | v :: r,h=>by
    rw [V.mps,V.mps,V.mps,mp_mp f g j v fun q hq=>h q (by simp [V.refss,hq]),mps_mps f g j r fun q hq=>h q (by simp [V.refss,hq])]
end
theorem Ya (f g j:Nat→Nat) (b:Ob) (h:∀ q∈nL b,g (f q) = j q):(b.mp f).mp g = b.mp j:=by
  cases b with
  | box cs=>rw [Ob.mp,Ob.mp,Ob.mp,mps_mps f g j cs h]
  | row t k n el=>rfl
  | raw x=>rfl
theorem Rc:∀ (qs os:List Nat) (q:Nat),q∈qs→qs.length = os.length→PB os (pk qs q) = jW (qs.zip os) q
  | [],_,q,h,_=>by simp at h
  | p :: qs,[],q,_,hl=>by simp at hl
  | p :: qs,o :: os,q,h,hl=>by
    rw [List.zip_cons_cons,jW,pk]
    cases hb:Nat.beq p q with
    | true=>rfl
    | false =>
      rw [cond_false,cond_false]
      refine Rc qs os q ((List.mem_cons.1 h).resolve_left fun e=>?_) (by simpa using hl)
      subst e; simp at hb
theorem VF {o:Nat} {r:List Nat} (h:hY (o :: r) = true):o ∉ r∧hY r = true:=by
  rw [hY,Bool.and_eq_true] at h
  refine ⟨fun hm=>?_,h.2⟩
  have:=show jq o r = true from List.any_eq_true.2 ⟨o,hm,by simp⟩
  rw [this] at h
  simp at h
theorem xL:∀ {qs os:List Nat} {q o:Nat},(q,o)∈qs.zip os→q∈qs∧o∈os
  | [],os,q,o,h=>by simp at h
  | _ :: _,[],q,o,h=>by simp at h
  | p :: qs,x :: os,q,o,h=>by
    rw [List.zip_cons_cons,List.mem_cons] at h
    rcases h with h | h
    · cases h; simp
    · have:=xL h; simp [this]
theorem RP:∀ {qs os:List Nat} {q q' o:Nat},hY os = true→(q,o)∈qs.zip os→(q',o)∈qs.zip os→q = q'
  | [],os,q,q',o,_,h,_=>by simp at h
  | _ :: _,[],q,q',o,_,h,_=>by simp at h
  | p :: qs,x :: os,q,q',o,hn,h,h'=>by
    obtain ⟨h1,h2⟩:=VF hn
    rw [List.zip_cons_cons,List.mem_cons] at h h'
    rcases h with h | h <;> rcases h' with h' | h'
    · cases h; cases h'; rfl
    · cases h; exact (h1 (xL h').2).elim
    · cases h'; exact (h1 (xL h).2).elim
    · exact RP h2 h h'
theorem Vd:∀ {qs os:List Nat} {q o o':Nat},hY qs = true→(q,o)∈qs.zip os→(q,o')∈qs.zip os→o = o'
  | [],os,q,o,o',_,h,_=>by simp at h
  | _ :: _,[],q,o,o',_,h,_=>by simp at h
  | p :: qs,x :: os,q,o,o',hn,h,h'=>by
    obtain ⟨h1,h2⟩:=VF hn
    rw [List.zip_cons_cons,List.mem_cons] at h h'
    rcases h with h | h <;> rcases h' with h' | h'
    · cases h; cases h'; rfl
    · cases h; exact (h1 (xL h').1).elim
    · cases h'; exact (h1 (xL h).1).elim
    · exact Vd h2 h h'
theorem J0 (f:Nat→Nat):∀ {os:List Nat} {obs:List Ob} {o:Nat} {b':Ob},am.get (sB f os obs) o = some b'→∃ (j:Nat) (b:Ob),os[j]? = some o∧obs[j]? = some b∧b' = b.mp f
  | [],_,_,_,h=>by simp [sB,am.get] at h
  | _ :: _,[],_,_,h=>by simp [sB,am.get] at h
  | p :: os,b :: obs,o,b',h=>by
    rw [sB,am.get_cons] at h
    split at h
    · next e=>cases h; subst e; exact ⟨0,b,rfl,rfl,rfl⟩
    · obtain ⟨j,c,h1,h2,h3⟩:=J0 f h
      exact ⟨j+1,c,by simpa using h1,by simpa using h2,h3⟩
theorem HZ (f:Nat→Nat):∀ {os:List Nat} {obs:List Ob},os.length = obs.length→∀ o∈os,o∈hT (sB f os obs)
  | [],_,_,o,h=>by simp at h
  | _ :: _,[],h,_,_=>by simp at h
  | p :: os,b :: obs,hl,o,h=>by
    rw [sB]
    simp only [hT,List.map_cons,List.mem_cons]
    rcases List.mem_cons.1 h with h | h
    · exact .inl h
    · exact .inr (HZ f (by simpa using hl) o h)
theorem Ay:∀ {os:List Nat} {ks:List Bool} {o:Nat},o∈lO os ks→o∈os
  | [],_,_,h=>by simp [lO] at h
  | _ :: _,[],_,h=>by simp [lO] at h
  | p :: os,k :: ks,o,h=>by
    rw [lO] at h
    cases k with
    | true =>
      rw [cond_true,List.mem_cons] at h
      rcases h with h | h
      · simp [h]
      · exact List.mem_cons_of_mem _ (Ay h)
    | false=>exact List.mem_cons_of_mem _ (Ay h)
theorem Ir:∀ {os:List Nat} {ks:List Bool} {i o:Nat},os[i]? = some o→ks[i]? = some true→o∈lO os ks
  | [],_,i,_,h,_=>by simp at h
  | _ :: _,[],i,_,_,h=>by simp at h
  | p :: os,k :: ks,0,o,h,h'=>by
    simp at h h'; subst h h'; simp [lO]
  | p :: os,k :: ks,i+1,o,h,h'=>by
    have:=Ir (os:=os) (ks:=ks) (i:=i) (by simpa using h) (by simpa using h')
    rw [lO]
    cases k with
    | true=>rw [cond_true]; exact List.mem_cons_of_mem _ this
    | false=>exact this
theorem Lq:∀ {qs os:List Nat} {j q o:Nat},qs[j]? = some q→os[j]? = some o→(q,o)∈qs.zip os
  | [],_,j,_,_,h,_=>by simp at h
  | _ :: _,[],j,_,_,_,h=>by simp at h
  | p :: qs,x :: os,0,q,o,h,h'=>by simp at h h'; subst h h'; simp
  | p :: qs,x :: os,j+1,q,o,h,h'=>by
    rw [List.zip_cons_cons]; exact List.mem_cons_of_mem _ (Lq (by simpa using h) (by simpa using h'))
theorem KN {nr:Bool} {qs:List Nat} {σ:St}:∀ {i:Nat} {obs0:List Ob} {rq:List Nat} {obs':List Ob} {ks:List Bool},je nr qs σ i obs0 rq obs' ks→obs0.length = rq.length∧obs'.length = rq.length∧ks.length = rq.length
  | _,[],[],[],[],_=>⟨rfl,rfl,rfl⟩
  | i,_ :: _,_ :: _,_ :: _,_ :: _,h=>by
    obtain ⟨a,b,c⟩:=KN h.2
    simp [a,b,c]
  | _,[],_ :: _,_,_,h=>by simp [je] at h
  | _,_ :: _,[],_,_,h=>by simp [je] at h
  | _,[],[],_ :: _,_,h=>by simp [je] at h
  | _,_ :: _,_ :: _,[],_,h=>by simp [je] at h
  | _,[],[],[],_ :: _,h=>by simp [je] at h
  | _,_ :: _,_ :: _,_ :: _,[],h=>by simp [je] at h
theorem xn {nr:Bool} {qs:List Nat} {σ:St}:∀ {i:Nat} {obs0:List Ob} {rq:List Nat} {obs':List Ob} {ks:List Bool},je nr qs σ i obs0 rq obs' ks→∀ j q,rq[j]? = some q →
    ∃ ob0 ob' k ob,obs0[j]? = some ob0∧obs'[j]? = some ob'∧ks[j]? = some k∧am.get σ.hp q = some ob∧pD (ob.mp (pk qs)) ob'∧((nL ob).all fun p=>jq p qs) = true∧((tx ob).all fun p=>qq (am.get σ.hp p)) = true∧(nr = true∨TW ob) ∧
      (k = true∨xI ob0 ob∧bv σ.tm (1000000+(i+j)) = some ⟨[],dg q ob0⟩)
  | _,[],[],[],[],_,j,q,hq=>by simp at hq
  | i,a :: _,b :: _,c :: _,d :: _,h,0,q,hq=>by
    simp at hq; subst hq
    obtain ⟨ob,h1,h2,h3,h4,h5,h6⟩:=h.1
    exact ⟨a,c,d,ob,rfl,rfl,rfl,h1,h2,h3,h4,h5,h6⟩
  | i,a :: _,b :: _,c :: _,d :: _,h,j+1,q,hq=>by
    obtain ⟨x,y,z,ob,h1,h2,h3,h4,h5,h6,h7,h8,h9⟩:=xn h.2 j q (by simpa using hq)
    exact ⟨x,y,z,ob,by simpa using h1,by simpa using h2,by simpa using h3,h4,h5,h6,h7,h8,by rw [show i+(j+1) = i+1+j by omega]; exact h9⟩
  | _,[],_ :: _,_,_,h,_,_,_=>by simp [je] at h
  | _,_ :: _,[],_,_,h,_,_,_=>by simp [je] at h
  | _,[],[],_ :: _,_,h,_,_,_=>by simp [je] at h
  | _,_ :: _,_ :: _,[],_,h,_,_,_=>by simp [je] at h
  | _,[],[],[],_ :: _,h,_,_,_=>by simp [je] at h
  | _,_ :: _,_ :: _,_ :: _,[],h,_,_,_=>by simp [je] at h
theorem FT:∀ cs:List V,(zP cs).length = cs.length
  | []=>rfl
  | v :: r=>by
    have:=FT r
    unfold zP
    split <;> simp_all
theorem OO:∀ cs:List V,VLes cs (zP cs)
  | []=>VLes.nil
  | v :: r=>by
    have:=OO r
    rw [zP.eq_def]
    split
    · next h=>cases h
    · next h=>cases h; exact VLes.cons (by rw [VLe]; exact .nilsl _ _) this
    · next h=>cases h; exact VLes.cons (VLe.rfl' _) this
theorem Wn (b:Ob):pD b (vP b):=by
  cases b with
  | box cs=>exact OO cs
  | row t k n el=>exact ⟨rfl,rfl,rfl,fun _ _=>.refl _⟩
  | raw x=>exact rfl
theorem ME (os:List Nat) (b ob:Ob) (q:Nat):(xI (vP (b.ren os)) ob→xI b ob)∧dg q (vP (b.ren os)) = dg q b:=by
  cases b with
  | box cs =>
    refine ⟨fun h=>?_, ?_⟩
    · cases ob <;> first | trivial | exact h
    · show V.ptr q (zP (V.rens os cs)).length 0 0 = V.ptr q cs.length 0 0
      rw [FT,js]
  | row t k n el=>exact ⟨fun h=>h,rfl⟩
  | raw x=>exact ⟨fun h=>h,rfl⟩
theorem MN {H:am} {os:List Nat}:∀ {r:List Nat},(∀ o∈r, ∃ b,am.get H o = some b)→∀ (i o:Nat),r[i]? = some o→∃ b,am.get H o = some b∧(nJ H os r)[i]? = some (vP (b.ren os))
  | [],_,i,o,h=>by simp at h
  | p :: r,ha,0,o,h=>by
    simp at h; subst h
    obtain ⟨b,hb⟩:=ha p (by simp)
    exact ⟨b,hb,by rw [nJ,hb]; rfl⟩
  | p :: r,ha,i+1,o,h=>by
    obtain ⟨b,hb⟩:=ha p (by simp)
    obtain ⟨c,h1,h2⟩:=MN (os:=os) (r:=r) (fun o ho=>ha o (by simp [ho])) i o (by simpa using h)
    exact ⟨c,h1,by rw [nJ,hb]; simpa using h2⟩
theorem GW {H:am} {os:List Nat}:∀ {r:List Nat},(∀ o∈r, ∃ b,am.get H o = some b)→(nJ H os r).length = r.length
  | [],_=>rfl
  | p :: r,ha=>by
    obtain ⟨b,hb⟩:=ha p (by simp)
    rw [nJ,hb]
    have:=GW (os:=os) (r:=r) fun o ho=>ha o (by simp [ho])
    simp [this]
theorem Mu {H:am} {os:List Nat}:∀ {r:List Nat} (i:Nat) (R:am),(∀ o∈r, ∃ b,am.get H o = some b)→(∀ j b,am.get (i6 H os i r) j = some b→am.get R j = some b)→cC R (zB i (nJ H os r))
  | [],i,R,_,_=>cC.nil
  | p :: r,i,R,ha,hR=>by
    obtain ⟨b,hb⟩:=ha p (by simp)
    rw [nJ,hb]
    show cC R ((i,some (vP (b.ren os))) :: zB (i+1) (nJ H os r))
    have e:i6 H os i (p :: r) = (i,some (b.ren os)) :: i6 H os (i+1) r:=by rw [i6,hb]
    have h1:am.get R i = some (b.ren os):=hR i _ (by rw [e,am.get_cons,if_pos rfl])
    rw [cC,h1]
    refine ⟨Wn _,Mu (i+1) R (fun o ho=>ha o (by simp [ho])) fun j c hc=>hR j c ?_⟩
    rw [e,am.get_cons,if_neg (fun e'=>?_)]
    · exact hc
    · have:=renH_ge r (i+1) j c hc
      omega
where renH_ge:∀ (r:List Nat) (i j:Nat) (c:Ob),am.get (i6 H os i r) j = some c→i≤j
  | [],i,j,c,h=>by simp [i6,am.get] at h
  | p :: r,i,j,c,h=>by
    rw [i6] at h
    split at h
    · rw [am.get_cons] at h
      split at h
      · omega
      · have:=renH_ge r (i+1) j c h; omega
    · have:=renH_ge r (i+1) j c h; omega
theorem JY {H:am} {os:List Nat}:∀ {r:List Nat} (i:Nat),(∀ o∈r, ∃ b,am.get H o = some b)→pQ (i6 H os i r) = pQ (zB i (nJ H os r))
  | [],_,_=>rfl
  | p :: r,i,ha=>by
    obtain ⟨b,hb⟩:=ha p (by simp)
    have ih:=JY (os:=os) (r:=r) (i+1) fun o ho=>ha o (by simp [ho])
    rw [nJ,hb]
    rw [show i6 H os i (p :: r) = (i,some (b.ren os)) :: i6 H os (i+1) r by rw [i6,hb]]
    unfold pQ at ih ⊢
    rw [List.map_cons,ih]
    show _ = (1000000+i,(⟨[],dg i (vP (b.ren os))⟩:bz)) :: _
    have e1:dg i (b.ren os) = dg i (vP (b.ren os)):=by
      rw [(ME os b b i).2]
      cases b with
      | box cs=>show V.ptr i (V.rens os cs).length 0 0 = _; rw [js]; rfl
      | row t k n el=>rfl
      | raw x=>rfl
    rw [← e1]
section
variable {P:Program} {σ:St} {H:am} {nid:Nat} {nr:Bool}
theorem ql.left {os qs:List Nat} {g:Gb} {v:V} (hn:hY os = true) (hget:∀ o∈os, ∃ b,am.get H o = some b) (hl:ql nr (nJ H os os) g qs σ v) :
    Left os nid H nr { pre:=g.pre,val:=g.val,eff:=sB (PB os) os g.obs,kill:=lO os g.kls } (qs.zip os) σ v:=by
  obtain ⟨l1,l2,l3⟩:=KN hl.go
  have l0:qs.length = os.length:=by rw [← l1,GW hget]
  have atq:∀ q o,(q,o)∈qs.zip os→∃ j:Nat,qs[j]? = some q∧os[j]? = some o:=by
    intro q o h
    obtain ⟨j,hj⟩:=List.getElem?_of_mem h
    rw [List.getElem?_zip_eq_some] at hj
    exact ⟨j,hj.1,hj.2⟩
  have qos:∀ (j o:Nat),os[j]? = some o→∃ q,qs[j]? = some q:=fun j o h=>by
    have:j < qs.length:=by rw [l0]; exact (List.getElem?_eq_some_iff.1 h).1
    exact ⟨_,List.getElem?_eq_getElem this⟩
  refine ⟨fun a b c h1 h2=>RP hn h1 h2,fun a b c h1 h2=>Vd hl.nd h1 h2,fun a b h=>.inl (xL h).2,by rw [mp_norefs _ v hl.refs]; exact hl.val,fun a h=>by rw [hl.refs] at h; simp at h,by rw [MW hl.refs]; rfl,hl.sc,fun q o h=>?_,fun o ob' h=>?_,fun o h=>?_,fun o h=>Ay h,fun i o h=>?_⟩
  · obtain ⟨j,h1,h2⟩:=atq q o h
    obtain ⟨_,_,_,ob,_,_,_,h4,_⟩:=xn hl.go j q h1
    exact ⟨ob,h4⟩
  · obtain ⟨j,b,h1,h2,rfl⟩:=J0 _ h
    obtain ⟨q,hq⟩:=qos j o h1
    obtain ⟨ob0,ob',k,ob,_,g2,_,g4,g5,g6,g7,g8,_⟩:=xn hl.go j q hq
    rw [h2] at g2; cases g2
    have hsub:∀ p∈nL ob,p∈qs:=fun p hp=>l8 (List.all_eq_true.1 g6 p hp)
    refine ⟨q,ob,Lq hq h1,g4, ?_,fun p hp=>?_,g7,g8⟩
    · rw [← Ya (pk qs) (PB os) (jW (qs.zip os)) ob fun p hp=>Rc qs os p (hsub p hp) l0]
      exact pD.mp _ g5
    · rw [List.map_fst_zip (by omega)]
      exact hsub p hp
  · exact HZ _ (by omega) o h
  · obtain ⟨q,hq⟩:=qos i o h
    obtain ⟨ob0,ob',k,ob,g1,_,g3,g4,_,_,_,_,g9⟩:=xn hl.go i q hq
    rcases g9 with rfl | ⟨h1,h2⟩
    · exact .inl (Ir h g3)
    · obtain ⟨b,hb,hb2⟩:=MN hget i o h
      rw [hb2] at g1; cases g1
      obtain ⟨n1,n2⟩:=ME os b ob q
      rw [n2,Nat.zero_add] at h2
      exact .inr ⟨q,b,ob,Lq hq h,hb,g4,n1 h1,h2⟩
theorem WL {rs:List ResultVar} {Q Q':St→V→Prop} (h:∀ σ v,Q σ v→Q' σ v):∀ e σ,eo P rs Q e σ→eo P rs Q' e σ:=by
  intro e σ hk
  have key:(match kY P σ rs with | some v=>Q σ v | none=>False)→(match kY P σ rs with | some v=>Q' σ v | none=>False):=by
    intro hk
    split at hk
    · next v hv=>exact h σ v hk
    · exact hk.elim
  cases e with
  | normal=>exact key hk
  | ret=>exact key hk
  | exit id=>exact hk
  | goto l=>exact hk
  | panic ch=>exact hk
  | outgrown=>exact hk
theorem akc {f:FuncId} {fn:Func} {c:Code} (hf:P.funcs[f]? = some fn) (hb:fn.body = some c) (hn:(fn.name == "runtime.NumGoroutine") = false) {fl:List Bool} {mc:List V→List Ob→Option Gb} {rs:List ResultVar} (hr:fn.results.toList = rs) {nt:Nat} (ht:fn.ntmps = nt)
    (h:∀ vs obs0 g,mc vs obs0 = some g→(∀ p∈g.pre,p)→∃ vs',VLes vs vs'∧(Nat.ble vs'.length nt&&Nat.ble nt 1000000) = true ∧
      ar P nt (aA c) (eo P rs fun σ v=>∃ qs,ql nr obs0 g qs σ v) { tm:=gk vs' 0++pQ (zB 0 obs0),hp:=zB 0 obs0,nx:=obs0.length }):bR P f (.mut (lF nr fl mc)):=by
  refine FL hf hb hn hr ht fun H nid args r h1 h2=>?_
  unfold lF at h1
  generalize hos:oD fl H args = os at h1
  cases hg:(hY os&&zO os H&&dY os H nr fl args) with
  | false=>rw [hg] at h1; cases h1
  | true =>
    rw [hg,cond_true] at h1
    rw [Bool.and_eq_true,Bool.and_eq_true] at hg
    split at h1
    · next g hm =>
      cases hg2:(Nat.beq g.obs.length os.length&&Nat.beq g.kls.length os.length) with
      | false=>rw [hg2] at h1; cases h1
      | true =>
        rw [hg2,cond_true] at h1
        cases h1
        obtain ⟨vs',k1,k2,k3⟩:=h _ _ g hm h2
        have hget:∀ o∈os, ∃ b,am.get H o = some b:=fun o ho=>by
          have:=List.all_eq_true.1 hg.1.2 o ho
          cases hx:am.get H o with
          | none=>rw [hx] at this; cases this
          | some b=>exact ⟨b,rfl⟩
        refine ⟨nr,os,fl,vs',hg.1.1,hg.1.2,hg.2,k1,k2, ?_⟩
        rw [GW hget] at k3
        rw [JY 0 hget]
        exact ar.mono (WL fun σ v ⟨qs,hq⟩=>⟨_,ql.left hg.1.1 hget hq⟩) (ar.ent (dv.hp (Mu 0 _ hget fun _ _ h=>h)) k3)
    · cases h1
end
end Go.Ax
