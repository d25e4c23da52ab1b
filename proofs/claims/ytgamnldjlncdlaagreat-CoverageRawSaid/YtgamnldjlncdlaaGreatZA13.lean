import Derived.Test.YtgamnldjlncdlaaGreatZA12
set_option linter.all false
/- Own rows that become data: in a state, and at a call. -/
namespace Go.Ax
open Go.RowKit
section
variable {P:Program} {σ:St} {E:br} {w:World} {H:ap}
def ak1 (o:Nat) (el:Nat→List D) (k:Nat):Option Ob→Option Ob
  | some (.box cs)=>some (.box (V.fzs o el k cs))
  | b=>b
def X3 (o:Nat) (el:Nat→List D) (k:Nat):ap→ap
  | []=>[]
  | x :: r=>(x.1,ak1 o el k x.2) :: X3 o el k r
def Tc (o:Nat) (el:Nat→List D) (k:Nat):List (Nat × bA)→List (Nat × bA)
  | []=>[]
  | x :: r=>(x.1,⟨x.2.ch,V.fz o el k x.2.v⟩) :: Tc o el k r
theorem SV (o:Nat) (el:Nat→List D) (k:Nat):∀ (H:ap) (q:Nat),ap.get (X3 o el k H) q = ak1 o el k (ap.get H q)
  | [],q=>rfl
  | (p,b) :: H,q=>by
    have ih:=SV o el k H q
    rw [X3,ap.get_cons,ap.get_cons]
    split
    · rfl
    · exact ih
theorem Kr (o:Nat) (el:Nat→List D) (k:Nat):∀ (tm:List (Nat × bA)) (t:Nat),bv (Tc o el k tm) t = (bv tm t).map fun s=>⟨s.ch,V.fz o el k s.v⟩
  | [],t=>rfl
  | (q,s) :: r,t=>by
    rw [Tc,dx,dx]
    split
    · rfl
    · exact Kr o el k r t
theorem adJ {o:Nat} {el:Nat→List D} {k:Nat} {v:V} {b:Bool} (h:V.fz o el k v = .c (.lit (.bool b))):v = .c (.lit (.bool b)):=by
  cases v with
  | c d=>exact h
  | agg vs=>simp [V.fz] at h
  | tup vs=>simp [V.fz] at h
  | ptr o' k' i j=>rw [V.fz] at h; cases hb:Nat.beq o' o <;> rw [hb] at h <;> simp at h
  | row o' k' i j =>
    rw [V.fz] at h
    cases hb:Nat.beq o' o with
    | false=>rw [hb] at h; simp at h
    | true =>
      rw [hb,cond_true] at h
      cases hk:Nat.beq k k' <;> rw [hk] at h <;> simp at h
  | dptr k' cs j=>simp [V.fz] at h
  | fn f vs=>simp [V.fz] at h
theorem X8 (o:Nat) (el:Nat→List D) (k:Nat) (s:Option bA):cV (s.map fun s=>⟨s.ch,V.fz o el k s.v⟩) = cV s:=by
  cases s with
  | none=>rfl
  | some s =>
    obtain ⟨ch,v⟩:=s
    cases hb:cV (some ⟨ch,v⟩) with
    | some b =>
      obtain ⟨ch',e⟩:=p7 hb
      cases e
      rfl
    | none =>
      cases hb2:cV (Option.map (fun s:bA=>(⟨s.ch,V.fz o el k s.v⟩:bA)) (some ⟨ch,v⟩)) with
      | none=>rfl
      | some b =>
        obtain ⟨ch',e⟩:=p7 hb2
        simp only [Option.map_some,Option.some.injEq,bA.mk.injEq] at e
        have:=adJ e.2
        subst this
        simp [cV] at hb
theorem ZX {o:Nat} (hH:bI E w H) {e:TypeId} {k n:Nat} {el:Nat→List D} (hg:H.get o = some (.row e k n el)):bI (E.fz o) w ((o,some (.row e k 0 el)) :: X3 o el k H):=by
  have h0:=MY hH hg
  refine ⟨fun q ob hq=>?_,h0.inj,h0.sep,h0.lt,h0.oklt⟩
  rw [ap.get_cons] at hq
  split at hq
  · next e1=>subst e1; cases hq; exact h0.at_ _ _ (by rw [ap.get_cons,if_pos rfl])
  · next hne =>
    rw [SV] at hq
    cases hy:ap.get H q with
    | none=>rw [hy] at hq; cases hq
    | some y =>
      rw [hy] at hq
      cases y with
      | row t k' n' el'=>cases hq; exact h0.at_ q _ (by rw [ap.get_cons,if_neg hne,ir,hy]; rfl)
      | raw x=>cases hq; exact h0.at_ q _ (by rw [ap.get_cons,if_neg hne,ir,hy]; rfl)
      | box cs =>
        cases hq
        obtain ⟨h1,h2,b,C,t,h3,h4,h5⟩:=hH.at_ q _ hy
        obtain ⟨c1,c2,c3⟩:=Io (E:=E) (fun e=>hne e.symm:q≠o)
        refine ⟨h1,c3.trans h2,b,C,t,c1.trans h3,h4,by rw [mB]; exact h5.1,fun i v d hv hd=>?_⟩
        rw [uH] at hd
        cases hx:cs[i]? with
        | none=>rw [hx] at hd; cases hd
        | some y=>rw [hx] at hd; cases hd; exact Mk hH hg (h5.2 i v y hv hx)
theorem du.fz (o e k n:Nat) (el:Nat→List D) (hg:ap.get σ.hp o = some (.row e k n el)):du σ { tm:=Tc o el k σ.tm,hp:=(o,some (.row e k 0 el)) :: X3 o el k σ.hp,nx:=σ.nx }:=by
  refine ⟨fun N B E a w hs=>⟨E.fz o,hs.size,hs.small,hs.defers,hs.live,ZX hs.heap hg,fun t s ht=>?_,hs.base,fun q b hq hb=>hs.own q b hq (rz hb).2,fun b hb=>?_⟩⟩
  · have ht':bv (Tc o el k σ.tm) t = some s:=ht
    rw [Kr] at ht'
    cases hx:bv σ.tm t with
    | none=>rw [hx] at ht'; cases ht'
    | some s0 =>
      rw [hx] at ht'; cases ht'
      have h0:=hs.slots t s0 hx
      have h1:pW σ.tm (E.fz o) w (kZ B a t) ⟨s0.ch,V.fz o el k s0.v⟩:=⟨fun hh=>Mk hs.heap hg (h0.1 hh),h0.2⟩
      exact kM (tm:=σ.tm) h1 fun x _ _=>by
        show cV (bv (Tc o el k σ.tm) x.1) = _
        rw [Kr,X8]
  · rcases hb with h | h
    · exact hs.okold b h
    · exact .inr (hs.own o b (hs.heap.at_ o _ hg).1 h)
mutual
theorem fz_refs (o:Nat) (el:Nat→List D) (k:Nat):∀ d:V, ∀ x∈(d.fz o el k).refs,x∈d.refs
  | .c _,x,h=>by simp [V.fz,V.refs] at h
  | .agg vs,x,h=>by rw [V.fz,V.refs] at h; rw [V.refs]; exact fzs_refs o el k vs x h
  | .tup vs,x,h=>by rw [V.fz,V.refs] at h; rw [V.refs]; exact fzs_refs o el k vs x h
  | .ptr o' k' i j,x,h=>by
    rw [V.fz] at h
    cases hb:Nat.beq o' o with
    | false=>rw [hb,cond_false] at h; exact h
    | true=>rw [hb,cond_true] at h; simp [V.refs] at h
  | .row o' k' i j,x,h=>by
    rw [V.fz] at h
    cases hb:Nat.beq o' o with
    | false=>rw [hb,cond_false] at h; exact h
    | true =>
      rw [hb,cond_true] at h
      cases hk:Nat.beq k k' <;> rw [hk] at h <;> simp [V.refs] at h
  | .dptr ..,x,h=>by rw [V.fz] at h; exact h
  | .fn _ vs,x,h=>by rw [V.fz,V.refs] at h; rw [V.refs]; exact fzs_refs o el k vs x h
theorem fzs_refs (o:Nat) (el:Nat→List D) (k:Nat):∀ vs:List V, ∀ x∈V.refss (V.fzs o el k vs),x∈V.refss vs
  | [],x,h=>by simp [V.fzs,V.refss] at h
  | v :: r,x,h=>by
    rw [V.fzs,V.refss,List.mem_append] at h
    rw [V.refss,List.mem_append]
    exact h.imp (fz_refs o el k v x) (fzs_refs o el k r x)
end
def HY:List Bool→List V→List Nat
  | _,[]=>[]
  | b :: fl,v :: r=>(bif b then [] else v.refs)++HY fl r
  | [],v :: r=>v.refs++HY [] r
theorem Ix:∀ (fl:List Bool) (vs:List V), ∀ x∈HY fl vs,x∈V.refss vs
  | _,[],x,h=>by cases ‹List Bool› <;> simp [HY] at h
  | true :: fl,v :: r,x,h=>by
    rw [HY,cond_true,List.nil_append] at h
    rw [V.refss,List.mem_append]
    exact .inr (Ix fl r x h)
  | false :: fl,v :: r,x,h=>by
    rw [HY,cond_false,List.mem_append] at h
    rw [V.refss,List.mem_append]
    exact h.imp id (Ix fl r x)
  | [],v :: r,x,h=>by
    rw [HY,List.mem_append] at h
    rw [V.refss,List.mem_append]
    exact h.imp id (Ix [] r x)
def uv (m:ap→Nat→List V→Option cR) (nid:Nat):List Nat→ap→List V→Option cR
  | [],H,vs=>m (eI (dB H vs) H) nid vs
  | o :: fl,H,vs=>match H.get o with
    | some (.row e k _ el)=>(uv m nid fl ((o,some (.row e k 0 el)) :: gO [o] H) (V.fzs o el k vs)).map fun r=>{ r with eff:=r.eff++[(o,some (.row e k 0 el))],kill:=o :: r.kill }
    | _=>none
def fzM (fl:List Bool) (m:ap→Nat→List V→Option cR):ap→Nat→List V→Option cR:=fun H nid args=>uv m nid (HY fl args) H args
theorem xZ {H:ap}:∀ {os:List Nat} {o:Nat},o∈os→ap.get (eI os H) o = ap.get H o
  | [],o,h=>by simp at h
  | q :: r,o,h=>by
    unfold eI
    by_cases e:q = o
    · subst e
      cases hq:ap.get H q with
      | some b=>rw [ap.get_cons,if_pos rfl]
      | none =>
        by_cases hr:q∈r
        · exact (xZ hr).trans hq
        · exact restr_none r hq
    · have hr:o∈r:=(List.mem_cons.1 h).resolve_left fun e'=>e e'.symm
      split
      · rw [ap.get_cons,if_neg e]; exact xZ hr
      · exact xZ hr
where restr_none {q:Nat}:∀ (r:List Nat),ap.get H q = none→ap.get (eI r H) q = none
  | [],_=>rfl
  | p :: r,h=>by
    unfold eI
    split
    · next b hb =>
      rw [ap.get_cons]
      split
      · next e=>subst e; rw [h] at hb; cases hb
      · exact restr_none r h
    · exact restr_none r h
theorem Mw {m:ap→Nat→List V→Option cR} {nid:Nat}:∀ (fl:List Nat) (H H':ap) (vs:List V),ll H H' (V.refss vs)→(∀ o∈fl,H.get o = H'.get o)→uv m nid fl H vs = uv m nid fl H' vs
  | [],H,H',vs,h,_=>by
    rw [uv,uv,qg h,Bz _ fun o ho=>NP h (by rw [qg h]; exact ho)]
  | q :: fl,H,H',vs,h,hf=>by
    rw [uv,uv, ← hf q (by simp)]
    split
    · next e k n el hq =>
      have key:∀ p,H.get p = H'.get p→ap.get ((q,some (.row e k 0 el)) :: gO [q] H) p = ap.get ((q,some (.row e k 0 el)) :: gO [q] H') p:=fun p hp=>by
        rw [ap.get_cons,ap.get_cons,ir,ir,hp]
      refine congrArg _ (Mw fl _ _ _ ⟨fun p hp=>key p (h.one p (fzs_refs _ _ _ _ p hp)),fun p hp cs hcs x hx=>?_⟩ fun p hp=>key p (hf p (by simp [hp])))
      rw [ap.get_cons] at hcs
      split at hcs
      · cases hcs
      · rw [ir] at hcs
        obtain ⟨y,hy,hky⟩:=Ba hcs
        cases y with
        | box cs0 =>
          cases hky
          exact key x (h.two p (fzs_refs _ _ _ _ p hp) cs0 hy x (kills_refs _ _ x hx).1)
        | row t k' n' el'=>cases hky
        | raw z=>cases hky
    · rfl
theorem SZ {f:FuncId} {m:ap→Nat→List V→Option cR} (h:bV P f (.mut m)) {nid:Nat} {xs:List Value}:∀ (fl:List Nat) (E:br) (H:ap) (vs:List V) (r:cR),bI E w H→¬ E.live nid→cz E w xs vs→uv m nid fl H vs = some r→(∀ p∈r.pre,p) →
    wX P f xs.toArray w fun v w'=>∃ E',ga E w H nid r E' w' v
  | [],E,H,vs,r,hH,hf,hv,hr,hp=>h E w H nid xs vs r hH hf hv hr hp
  | q :: fl,E,H,vs,r,hH,hf,hv,hr,hp=>by
    rw [uv] at hr
    split at hr
    · next e k n el hg =>
      have hq:=(hH.at_ q _ hg).1
      cases hb:uv m nid fl ((q,some (.row e k 0 el)) :: gO [q] H) (V.fzs q el k vs) with
      | none=>rw [hb] at hr; cases hr
      | some r0 =>
        rw [hb] at hr; cases hr
        refine wX.mono (SZ h fl (E.fz q) _ _ r0 (MY hH hg) hf ⟨by rw [mB]; exact hv.1,fun i v d hi hd=>by
          rw [uH] at hd
          cases hx:vs[i]? with
          | none=>rw [hx] at hd; cases hd
          | some x=>rw [hx] at hd; cases hd; exact Mk hH hg (hv.2 i v x hi hx)⟩ hb hp) fun v w' h2=>?_
        obtain ⟨E',h2⟩:=h2
        refine ⟨E',(MX hq).trans1 h2.st (fun _ h=>h) (fun _ _ h=>(rz h).2), ?_,h2.val,h2.live⟩
        have h3:=h2.heap
        rw [CW] at h3
        rw [List.append_assoc]
        exact h3
    · cases hr
theorem Yc {f:FuncId} {m:ap→Nat→List V→Option cR} (fl:List Bool) (h:bV P f (.mut m)):bV P f (.mut (fzM fl m)):=by
  intro E w H0 nid xs args r hH hf hx hm hp
  have hag:ll H0 (eI (dB H0 args) H0) (V.refss args):=Bv fun o ho=>(xZ ho).symm
  have e:uv m nid (HY fl args) (eI (dB H0 args) H0) args = uv m nid (HY fl args) H0 args:=(Mw _ _ _ _ hag fun o ho=>hag.one o (Ix fl args o ho)).symm
  exact SZ h (HY fl args) E H0 args r hH hf hx (e ▸ hm) hp
end
structure GZ where
  pre:List Prop
  val:V
  obs:List Ob
  kls:List Bool
def AQ:List V→List V
  | []=>[]
  | .c .nil :: r=>.c (.sl 0 0 fun _=>[]) :: AQ r
  | v :: r=>v :: AQ r
def wy:Ob→Ob
  | .box cs=>.box (AQ cs)
  | b=>b
def VQ:List Bool→List V→List Nat
  | b :: fl,v :: r=>(bif b then v.refs else [])++VQ fl r
  | _,_=>[]
def oH (fl:List Bool) (H:ap) (args:List V):List Nat:=Ph H (U6 [] (VQ fl args))
def nK (H:ap) (os:List Nat):List Nat→List Ob
  | []=>[]
  | o :: r=>match ap.get H o with | some b=>wy (b.ren os) :: nK H os r | none=>nK H os r
def AP:Nat→List Ob→ap
  | _,[]=>[]
  | i,b :: r=>(i,some b) :: AP (i+1) r
def sJ (f:Nat→Nat):List Nat→List Ob→ap
  | o :: r,b :: s=>(o,some (b.mp f)) :: sJ f r s
  | _,_=>[]
def lu:List Nat→List Bool→List Nat
  | o :: r,k :: s=>bif k then o :: lu r s else lu r s
  | _,_=>[]
def Qi:List Nat→Nat→Nat
  | [],_=>0
  | o :: _,0=>o
  | _ :: r,i+1=>Qi r i
def lP (nr:Bool) (fl:List Bool) (mc:List V→List Ob→Option GZ):ap→Nat→List V→Option cR:=fun H _ args =>
  bif gT (oH fl H args)&&Ad (oH fl H args) H&&dY (oH fl H args) H nr fl args then
    match mc (kV (oH fl H args) H fl args) (nK H (oH fl H args) (oH fl H args)) with
    | some g=>bif Nat.beq g.obs.length (oH fl H args).length&&Nat.beq g.kls.length (oH fl H args).length then some { pre:=g.pre,val:=g.val,eff:=sJ (Qi (oH fl H args)) (oH fl H args) g.obs,kill:=lu (oH fl H args) g.kls } else none
    | none=>none
  else none
def i6 (nr:Bool) (qs:List Nat) (σ:St):Nat→List Ob→List Nat→List Ob→List Bool→Prop
  | _,[],[],[],[]=>True
  | i,ob0 :: r0,q :: rq,ob' :: r',k :: rk=>(∃ ob,ap.get σ.hp q = some ob∧pQ (ob.mp (py qs)) ob'∧((od ob).all fun p=>jm p qs) = true∧((uk ob).all fun p=>qM (ap.get σ.hp p)) = true∧(nr = true∨UL ob) ∧
      (k = true∨yf ob0 ob∧bv σ.tm (1000000+i) = some ⟨[],dl q ob0⟩))∧i6 nr qs σ (i+1) r0 rq r' rk
  | _,_,_,_,_=>False
structure qo (nr:Bool) (obs0:List Ob) (g:GZ) (qs:List Nat) (σ:St) (v:V):Prop where
  nd:gT qs = true
  refs:v.refs = []
  val:VLe v g.val
  sc:nr = true∨v.sclr = true
  go:i6 nr qs σ 0 obs0 qs g.obs g.kls
theorem VLe.split {x y:V} (h:VLe x y):x = y∨y = .c .unk∨(∃ d d',x = .c d∧y = .c d'∧dU d d')∨(∃ xs ys,x = .agg xs∧y = .agg ys∧VLes xs ys)∨(∃ xs ys,x = .tup xs∧y = .tup ys∧VLes xs ys) ∨
    ∃ k cs j k' cs' j',x = .dptr k cs j∧y = .dptr k' cs' j'∧VLe x y:=by
  have h0:=h
  rw [VLe.eq_def] at h
  split at h
  · exact .inr (.inr (.inl ⟨_,_,rfl,rfl,h⟩))
  · exact .inr (.inr (.inr (.inl ⟨_,_,rfl,rfl,h⟩)))
  · exact .inr (.inr (.inr (.inr (.inl ⟨_,_,rfl,rfl,h⟩))))
  · exact .inr (.inr (.inr (.inr (.inr ⟨_,_,_,_,_,_,rfl,rfl,h0⟩))))
  · exact .inr (.inl rfl)
  · exact .inl h
theorem VLe.unk' (x:V):VLe x (.c .unk):=by
  cases x <;> rw [VLe.eq_def] <;> first | exact dU.unk _ | trivial
mutual
theorem VLe.mp (f:Nat→Nat) (x y:V) (h:VLe x y):VLe (x.mp f) (y.mp f):=by
  rcases VLe.split h with rfl | rfl | ⟨d,d',rfl,rfl,h1⟩ | ⟨xs,ys,rfl,rfl,h1⟩ | ⟨xs,ys,rfl,rfl,h1⟩ | ⟨k,cs,j,k',cs',j',rfl,rfl,h1⟩
  · exact VLe.rfl' _
  · exact VLe.unk' _
  · exact h
  · rw [V.mp,V.mp,VLe]; exact VLes.mp f xs ys h1
  · rw [V.mp,V.mp,VLe]; exact VLes.mp f xs ys h1
  · exact h
termination_by SizeOf.sizeOf x
theorem VLes.mp (f:Nat→Nat) (xs ys:List V) (h:VLes xs ys):VLes (V.mps f xs) (V.mps f ys):=by
  match xs,ys,h with
  | [],[],h=>exact h
  | x :: xs,y :: ys,h=>rw [VLes] at h; rw [V.mps,V.mps,VLes]; exact ⟨VLe.mp f x y h.1,VLes.mp f xs ys h.2⟩
  | [],_ :: _,h=>simp [VLes] at h
  | _ :: _,[],h=>simp [VLes] at h
termination_by SizeOf.sizeOf xs
end
theorem pQ.mp (f:Nat→Nat) {x y:Ob} (h:pQ x y):pQ (x.mp f) (y.mp f):=by
  cases x with
  | box cs=>cases y with
    | box cs'=>exact VLes.mp f cs cs' h
    | _=>exact h
  | row t k n el=>cases y <;> exact h
  | raw x=>cases y <;> exact h
mutual
theorem mp_mp (f g j:Nat→Nat):∀ v:V,(∀ q∈v.refs,g (f q) = j q)→(v.mp f).mp g = v.mp j
  | .c _,_=>rfl
  | .agg vs,h=>by rw [V.mp,V.mp,V.mp,mps_mps f g j vs (by rw [V.refs] at h; exact h)]
  | .tup vs,h=>by rw [V.mp,V.mp,V.mp,mps_mps f g j vs (by rw [V.refs] at h; exact h)]
  | .ptr o k i n,h=>by rw [V.mp,V.mp,V.mp,h o (by simp [V.refs])]
  | .row o k i n,h=>by rw [V.mp,V.mp,V.mp,h o (by simp [V.refs])]
  | .dptr ..,_=>rfl
  | .fn _ vs,h=>by rw [V.mp,V.mp,V.mp,mps_mps f g j vs (by rw [V.refs] at h; exact h)]
theorem mps_mps (f g j:Nat→Nat):∀ vs:List V,(∀ q∈V.refss vs,g (f q) = j q)→V.mps g (V.mps f vs) = V.mps j vs
  | [],_=>rfl
  | v :: r,h=>by
    rw [V.mps,V.mps,V.mps,mp_mp f g j v fun q hq=>h q (by simp [V.refss,hq]),mps_mps f g j r fun q hq=>h q (by simp [V.refss,hq])]
end
theorem ZC (f g j:Nat→Nat) (b:Ob) (h:∀ q∈od b,g (f q) = j q):(b.mp f).mp g = b.mp j:=by
  cases b with
  | box cs=>rw [Ob.mp,Ob.mp,Ob.mp,mps_mps f g j cs h]
  | row t k n el=>rfl
  | raw x=>rfl
theorem Sp:∀ (qs os:List Nat) (q:Nat),q∈qs→qs.length = os.length→Qi os (py qs q) = jO (qs.zip os) q
  | [],_,q,h,_=>by simp at h
  | p :: qs,[],q,_,hl=>by simp at hl
  | p :: qs,o :: os,q,h,hl=>by
    rw [List.zip_cons_cons,jO,py]
    cases hb:Nat.beq p q with
    | true=>rfl
    | false =>
      rw [cond_false,cond_false]
      refine Sp qs os q ((List.mem_cons.1 h).resolve_left fun e=>?_) (by simpa using hl)
      subst e; simp at hb
theorem Xa {o:Nat} {r:List Nat} (h:gT (o :: r) = true):o ∉ r∧gT r = true:=by
  rw [gT,Bool.and_eq_true] at h
  refine ⟨fun hm=>?_,h.2⟩
  have:=show jm o r = true from List.any_eq_true.2 ⟨o,hm,by simp⟩
  rw [this] at h
  simp at h
theorem yb:∀ {qs os:List Nat} {q o:Nat},(q,o)∈qs.zip os→q∈qs∧o∈os
  | [],os,q,o,h=>by simp at h
  | _ :: _,[],q,o,h=>by simp at h
  | p :: qs,x :: os,q,o,h=>by
    rw [List.zip_cons_cons,List.mem_cons] at h
    rcases h with h | h
    · cases h; simp
    · have:=yb h; simp [this]
theorem SA:∀ {qs os:List Nat} {q q' o:Nat},gT os = true→(q,o)∈qs.zip os→(q',o)∈qs.zip os→q = q'
  | [],os,q,q',o,_,h,_=>by simp at h
  | _ :: _,[],q,q',o,_,h,_=>by simp at h
  | p :: qs,x :: os,q,q',o,hn,h,h'=>by
    obtain ⟨h1,h2⟩:=Xa hn
    rw [List.zip_cons_cons,List.mem_cons] at h h'
    rcases h with h | h <;> rcases h' with h' | h'
    · cases h; cases h'; rfl
    · cases h; exact (h1 (yb h').2).elim
    · cases h'; exact (h1 (yb h).2).elim
    · exact SA h2 h h'
theorem Wk:∀ {qs os:List Nat} {q o o':Nat},gT qs = true→(q,o)∈qs.zip os→(q,o')∈qs.zip os→o = o'
  | [],os,q,o,o',_,h,_=>by simp at h
  | _ :: _,[],q,o,o',_,h,_=>by simp at h
  | p :: qs,x :: os,q,o,o',hn,h,h'=>by
    obtain ⟨h1,h2⟩:=Xa hn
    rw [List.zip_cons_cons,List.mem_cons] at h h'
    rcases h with h | h <;> rcases h' with h' | h'
    · cases h; cases h'; rfl
    · cases h; exact (h1 (yb h').1).elim
    · cases h'; exact (h1 (yb h).1).elim
    · exact Wk h2 h h'
theorem LE (f:Nat→Nat):∀ {os:List Nat} {obs:List Ob} {o:Nat} {b':Ob},ap.get (sJ f os obs) o = some b'→∃ (j:Nat) (b:Ob),os[j]? = some o∧obs[j]? = some b∧b' = b.mp f
  | [],_,_,_,h=>by simp [sJ,ap.get] at h
  | _ :: _,[],_,_,h=>by simp [sJ,ap.get] at h
  | p :: os,b :: obs,o,b',h=>by
    rw [sJ,ap.get_cons] at h
    split at h
    · next e=>cases h; subst e; exact ⟨0,b,rfl,rfl,rfl⟩
    · obtain ⟨j,c,h1,h2,h3⟩:=LE f h
      exact ⟨j+1,c,by simpa using h1,by simpa using h2,h3⟩
theorem Jm (f:Nat→Nat):∀ {os:List Nat} {obs:List Ob},os.length = obs.length→∀ o∈os,o∈gV (sJ f os obs)
  | [],_,_,o,h=>by simp at h
  | _ :: _,[],h,_,_=>by simp at h
  | p :: os,b :: obs,hl,o,h=>by
    rw [sJ]
    simp only [gV,List.map_cons,List.mem_cons]
    rcases List.mem_cons.1 h with h | h
    · exact .inl h
    · exact .inr (Jm f (by simpa using hl) o h)
theorem Be:∀ {os:List Nat} {ks:List Bool} {o:Nat},o∈lu os ks→o∈os
  | [],_,_,h=>by simp [lu] at h
  | _ :: _,[],_,h=>by simp [lu] at h
  | p :: os,k :: ks,o,h=>by
    rw [lu] at h
    cases k with
    | true =>
      rw [cond_true,List.mem_cons] at h
      rcases h with h | h
      · simp [h]
      · exact List.mem_cons_of_mem _ (Be h)
    | false=>exact List.mem_cons_of_mem _ (Be h)
theorem JA:∀ {os:List Nat} {ks:List Bool} {i o:Nat},os[i]? = some o→ks[i]? = some true→o∈lu os ks
  | [],_,i,_,h,_=>by simp at h
  | _ :: _,[],i,_,_,h=>by simp at h
  | p :: os,k :: ks,0,o,h,h'=>by
    simp at h h'; subst h h'; simp [lu]
  | p :: os,k :: ks,i+1,o,h,h'=>by
    have:=JA (os:=os) (ks:=ks) (i:=i) (by simpa using h) (by simpa using h')
    rw [lu]
    cases k with
    | true=>rw [cond_true]; exact List.mem_cons_of_mem _ this
    | false=>exact this
theorem Ng:∀ {qs os:List Nat} {j q o:Nat},qs[j]? = some q→os[j]? = some o→(q,o)∈qs.zip os
  | [],_,j,_,_,h,_=>by simp at h
  | _ :: _,[],j,_,_,_,h=>by simp at h
  | p :: qs,x :: os,0,q,o,h,h'=>by simp at h h'; subst h h'; simp
  | p :: qs,x :: os,j+1,q,o,h,h'=>by
    rw [List.zip_cons_cons]; exact List.mem_cons_of_mem _ (Ng (by simpa using h) (by simpa using h'))
theorem LZ {nr:Bool} {qs:List Nat} {σ:St}:∀ {i:Nat} {obs0:List Ob} {rq:List Nat} {obs':List Ob} {ks:List Bool},i6 nr qs σ i obs0 rq obs' ks→obs0.length = rq.length∧obs'.length = rq.length∧ks.length = rq.length
  | _,[],[],[],[],_=>⟨rfl,rfl,rfl⟩
  | i,_ :: _,_ :: _,_ :: _,_ :: _,h=>by
    obtain ⟨a,b,c⟩:=LZ h.2
    simp [a,b,c]
  | _,[],_ :: _,_,_,h=>by simp [i6] at h
  | _,_ :: _,[],_,_,h=>by simp [i6] at h
  | _,[],[],_ :: _,_,h=>by simp [i6] at h
  | _,_ :: _,_ :: _,[],_,h=>by simp [i6] at h
  | _,[],[],[],_ :: _,h=>by simp [i6] at h
  | _,_ :: _,_ :: _,_ :: _,[],h=>by simp [i6] at h
theorem x6 {nr:Bool} {qs:List Nat} {σ:St}:∀ {i:Nat} {obs0:List Ob} {rq:List Nat} {obs':List Ob} {ks:List Bool},i6 nr qs σ i obs0 rq obs' ks→∀ j q,rq[j]? = some q →
    ∃ ob0 ob' k ob,obs0[j]? = some ob0∧obs'[j]? = some ob'∧ks[j]? = some k∧ap.get σ.hp q = some ob∧pQ (ob.mp (py qs)) ob'∧((od ob).all fun p=>jm p qs) = true∧((uk ob).all fun p=>qM (ap.get σ.hp p)) = true∧(nr = true∨UL ob) ∧
      (k = true∨yf ob0 ob∧bv σ.tm (1000000+(i+j)) = some ⟨[],dl q ob0⟩)
  | _,[],[],[],[],_,j,q,hq=>by simp at hq
  | i,a :: _,b :: _,c :: _,d :: _,h,0,q,hq=>by
    simp at hq; subst hq
    obtain ⟨ob,h1,h2,h3,h4,h5,h6⟩:=h.1
    exact ⟨a,c,d,ob,rfl,rfl,rfl,h1,h2,h3,h4,h5,h6⟩
  | i,a :: _,b :: _,c :: _,d :: _,h,j+1,q,hq=>by
    obtain ⟨x,y,z,ob,h1,h2,h3,h4,h5,h6,h7,h8,h9⟩:=x6 h.2 j q (by simpa using hq)
    exact ⟨x,y,z,ob,by simpa using h1,by simpa using h2,by simpa using h3,h4,h5,h6,h7,h8,by rw [show i+(j+1) = i+1+j by omega]; exact h9⟩
  | _,[],_ :: _,_,_,h,_,_,_=>by simp [i6] at h
  | _,_ :: _,[],_,_,h,_,_,_=>by simp [i6] at h
  | _,[],[],_ :: _,_,h,_,_,_=>by simp [i6] at h
  | _,_ :: _,_ :: _,[],_,h,_,_,_=>by simp [i6] at h
  | _,[],[],[],_ :: _,h,_,_,_=>by simp [i6] at h
  | _,_ :: _,_ :: _,_ :: _,[],h,_,_,_=>by simp [i6] at h
theorem H2:∀ cs:List V,(AQ cs).length = cs.length
  | []=>rfl
  | v :: r=>by
    have:=H2 r
    unfold AQ
    split <;> simp_all
theorem Qr:∀ cs:List V,VLes cs (AQ cs)
  | []=>VLes.nil
  | v :: r=>by
    have:=Qr r
    rw [AQ.eq_def]
    split
    · next h=>cases h
    · next h=>cases h; exact VLes.cons (by rw [VLe]; exact .nilsl _ _) this
    · next h=>cases h; exact VLes.cons (VLe.rfl' _) this
theorem VL (b:Ob):pQ b (wy b):=by
  cases b with
  | box cs=>exact Qr cs
  | row t k n el=>exact ⟨rfl,rfl,rfl,fun _ _=>.refl _⟩
  | raw x=>exact rfl
theorem Ok (os:List Nat) (b ob:Ob) (q:Nat):(yf (wy (b.ren os)) ob→yf b ob)∧dl q (wy (b.ren os)) = dl q b:=by
  cases b with
  | box cs =>
    refine ⟨fun h=>?_, ?_⟩
    · cases ob <;> first | trivial | exact h
    · show V.ptr q (AQ (V.rens os cs)).length 0 0 = V.ptr q cs.length 0 0
      rw [H2,jr]
  | row t k n el=>exact ⟨fun h=>h,rfl⟩
  | raw x=>exact ⟨fun h=>h,rfl⟩
theorem Oq {H:ap} {os:List Nat}:∀ {r:List Nat},(∀ o∈r, ∃ b,ap.get H o = some b)→∀ (i o:Nat),r[i]? = some o→∃ b,ap.get H o = some b∧(nK H os r)[i]? = some (wy (b.ren os))
  | [],_,i,o,h=>by simp at h
  | p :: r,ha,0,o,h=>by
    simp at h; subst h
    obtain ⟨b,hb⟩:=ha p (by simp)
    exact ⟨b,hb,by rw [nK,hb]; rfl⟩
  | p :: r,ha,i+1,o,h=>by
    obtain ⟨b,hb⟩:=ha p (by simp)
    obtain ⟨c,h1,h2⟩:=Oq (os:=os) (r:=r) (fun o ho=>ha o (by simp [ho])) i o (by simpa using h)
    exact ⟨c,h1,by rw [nK,hb]; simpa using h2⟩
theorem G3 {H:ap} {os:List Nat}:∀ {r:List Nat},(∀ o∈r, ∃ b,ap.get H o = some b)→(nK H os r).length = r.length
  | [],_=>rfl
  | p :: r,ha=>by
    obtain ⟨b,hb⟩:=ha p (by simp)
    rw [nK,hb]
    have:=G3 (os:=os) (r:=r) fun o ho=>ha o (by simp [ho])
    simp [this]
theorem Od {H:ap} {os:List Nat}:∀ {r:List Nat} (i:Nat) (R:ap),(∀ o∈r, ∃ b,ap.get H o = some b)→(∀ j b,ap.get (iX H os i r) j = some b→ap.get R j = some b)→cI R (AP i (nK H os r))
  | [],i,R,_,_=>cI.nil
  | p :: r,i,R,ha,hR=>by
    obtain ⟨b,hb⟩:=ha p (by simp)
    rw [nK,hb]
    show cI R ((i,some (wy (b.ren os))) :: AP (i+1) (nK H os r))
    have e:iX H os i (p :: r) = (i,some (b.ren os)) :: iX H os (i+1) r:=by rw [iX,hb]
    have h1:ap.get R i = some (b.ren os):=hR i _ (by rw [e,ap.get_cons,if_pos rfl])
    rw [cI,h1]
    refine ⟨VL _,Od (i+1) R (fun o ho=>ha o (by simp [ho])) fun j c hc=>hR j c ?_⟩
    rw [e,ap.get_cons,if_neg (fun e'=>?_)]
    · exact hc
    · have:=renH_ge r (i+1) j c hc
      omega
where renH_ge:∀ (r:List Nat) (i j:Nat) (c:Ob),ap.get (iX H os i r) j = some c→i≤j
  | [],i,j,c,h=>by simp [iX,ap.get] at h
  | p :: r,i,j,c,h=>by
    rw [iX] at h
    split at h
    · rw [ap.get_cons] at h
      split at h
      · omega
      · have:=renH_ge r (i+1) j c h; omega
    · have:=renH_ge r (i+1) j c h; omega
theorem Ld {H:ap} {os:List Nat}:∀ {r:List Nat} (i:Nat),(∀ o∈r, ∃ b,ap.get H o = some b)→qm (iX H os i r) = qm (AP i (nK H os r))
  | [],_,_=>rfl
  | p :: r,i,ha=>by
    obtain ⟨b,hb⟩:=ha p (by simp)
    have ih:=Ld (os:=os) (r:=r) (i+1) fun o ho=>ha o (by simp [ho])
    rw [nK,hb]
    rw [show iX H os i (p :: r) = (i,some (b.ren os)) :: iX H os (i+1) r by rw [iX,hb]]
    unfold qm at ih ⊢
    rw [List.map_cons,ih]
    show _ = (1000000+i,(⟨[],dl i (wy (b.ren os))⟩:bA)) :: _
    have e1:dl i (b.ren os) = dl i (wy (b.ren os)):=by
      rw [(Ok os b b i).2]
      cases b with
      | box cs=>show V.ptr i (V.rens os cs).length 0 0 = _; rw [jr]; rfl
      | row t k n el=>rfl
      | raw x=>rfl
    rw [← e1]
section
variable {P:Program} {σ:St} {H:ap} {nid:Nat} {nr:Bool}
theorem qo.left {os qs:List Nat} {g:GZ} {v:V} (hn:gT os = true) (hget:∀ o∈os, ∃ b,ap.get H o = some b) (hl:qo nr (nK H os os) g qs σ v) :
    Left os nid H nr { pre:=g.pre,val:=g.val,eff:=sJ (Qi os) os g.obs,kill:=lu os g.kls } (qs.zip os) σ v:=by
  obtain ⟨l1,l2,l3⟩:=LZ hl.go
  have l0:qs.length = os.length:=by rw [← l1,G3 hget]
  have atq:∀ q o,(q,o)∈qs.zip os→∃ j:Nat,qs[j]? = some q∧os[j]? = some o:=by
    intro q o h
    obtain ⟨j,hj⟩:=List.getElem?_of_mem h
    rw [List.getElem?_zip_eq_some] at hj
    exact ⟨j,hj.1,hj.2⟩
  have qos:∀ (j o:Nat),os[j]? = some o→∃ q,qs[j]? = some q:=fun j o h=>by
    have:j < qs.length:=by rw [l0]; exact (List.getElem?_eq_some_iff.1 h).1
    exact ⟨_,List.getElem?_eq_getElem this⟩
  refine ⟨fun a b c h1 h2=>SA hn h1 h2,fun a b c h1 h2=>Wk hl.nd h1 h2,fun a b h=>.inl (yb h).2,by rw [mp_norefs _ v hl.refs]; exact hl.val,fun a h=>by rw [hl.refs] at h; simp at h,by rw [On hl.refs]; rfl,hl.sc,fun q o h=>?_,fun o ob' h=>?_,fun o h=>?_,fun o h=>Be h,fun i o h=>?_⟩
  · obtain ⟨j,h1,h2⟩:=atq q o h
    obtain ⟨_,_,_,ob,_,_,_,h4,_⟩:=x6 hl.go j q h1
    exact ⟨ob,h4⟩
  · obtain ⟨j,b,h1,h2,rfl⟩:=LE _ h
    obtain ⟨q,hq⟩:=qos j o h1
    obtain ⟨ob0,ob',k,ob,_,g2,_,g4,g5,g6,g7,g8,_⟩:=x6 hl.go j q hq
    rw [h2] at g2; cases g2
    have hsub:∀ p∈od ob,p∈qs:=fun p hp=>mI (List.all_eq_true.1 g6 p hp)
    refine ⟨q,ob,Ng hq h1,g4, ?_,fun p hp=>?_,g7,g8⟩
    · rw [← ZC (py qs) (Qi os) (jO (qs.zip os)) ob fun p hp=>Sp qs os p (hsub p hp) l0]
      exact pQ.mp _ g5
    · rw [List.map_fst_zip (by omega)]
      exact hsub p hp
  · exact Jm _ (by omega) o h
  · obtain ⟨q,hq⟩:=qos i o h
    obtain ⟨ob0,ob',k,ob,g1,_,g3,g4,_,_,_,_,g9⟩:=x6 hl.go i q hq
    rcases g9 with rfl | ⟨h1,h2⟩
    · exact .inl (JA h g3)
    · obtain ⟨b,hb,hb2⟩:=Oq hget i o h
      rw [hb2] at g1; cases g1
      obtain ⟨n1,n2⟩:=Ok os b ob q
      rw [n2,Nat.zero_add] at h2
      exact .inr ⟨q,b,ob,Ng hq h,hb,g4,n1 h1,h2⟩
theorem WB {rs:List ResultVar} {Q Q':St→V→Prop} (h:∀ σ v,Q σ v→Q' σ v):∀ e σ,ep P rs Q e σ→ep P rs Q' e σ:=by
  intro e σ hk
  have key:(match kT P σ rs with | some v=>Q σ v | none=>False)→(match kT P σ rs with | some v=>Q' σ v | none=>False):=by
    intro hk
    split at hk
    · next v hv=>exact h σ v hk
    · exact hk.elim
  cases e with
  | normal=>exact key hk
  | ret=>exact key hk
  | exit id=>exact hk
  | goto l=>exact hk
  | panic ch=>exact hk
  | outgrown=>exact hk
theorem alg {f:FuncId} {fn:Func} {c:Code} (hf:P.funcs[f]? = some fn) (hb:fn.body = some c) (hn:(fn.name == "runtime.NumGoroutine") = false) {fl:List Bool} {mc:List V→List Ob→Option GZ} {rs:List ResultVar} (hr:fn.results.toList = rs) {nt:Nat} (ht:fn.ntmps = nt)
    (h:∀ vs obs0 g,mc vs obs0 = some g→(∀ p∈g.pre,p)→∃ vs',VLes vs vs'∧(Nat.ble vs'.length nt&&Nat.ble nt 1000000) = true ∧
      au P nt (aA c) (ep P rs fun σ v=>∃ qs,qo nr obs0 g qs σ v) { tm:=fX vs' 0++qm (AP 0 obs0),hp:=AP 0 obs0,nx:=obs0.length }):bV P f (.mut (lP nr fl mc)):=by
  refine HX hf hb hn hr ht fun H nid args r h1 h2=>?_
  unfold lP at h1
  generalize hos:oH fl H args = os at h1
  cases hg:(gT os&&Ad os H&&dY os H nr fl args) with
  | false=>rw [hg] at h1; cases h1
  | true =>
    rw [hg,cond_true] at h1
    rw [Bool.and_eq_true,Bool.and_eq_true] at hg
    split at h1
    · next g hm =>
      cases hg2:(Nat.beq g.obs.length os.length&&Nat.beq g.kls.length os.length) with
      | false=>rw [hg2] at h1; cases h1
      | true =>
        rw [hg2,cond_true] at h1
        cases h1
        obtain ⟨vs',k1,k2,k3⟩:=h _ _ g hm h2
        have hget:∀ o∈os, ∃ b,ap.get H o = some b:=fun o ho=>by
          have:=List.all_eq_true.1 hg.1.2 o ho
          cases hx:ap.get H o with
          | none=>rw [hx] at this; cases this
          | some b=>exact ⟨b,rfl⟩
        refine ⟨nr,os,fl,vs',hg.1.1,hg.1.2,hg.2,k1,k2, ?_⟩
        rw [G3 hget] at k3
        rw [Ld 0 hget]
        exact au.mono (WB fun σ v ⟨qs,hq⟩=>⟨_,qo.left hg.1.1 hget hq⟩) (au.ent (du.hp (Od 0 _ hget fun _ _ h=>h)) k3)
    · cases h1
end
end Go.Ax
